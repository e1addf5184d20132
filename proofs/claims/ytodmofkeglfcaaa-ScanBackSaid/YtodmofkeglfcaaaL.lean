/- Chapter 02 (scan): the reference's quoted texts, gaps: proved. No condition. -/
import Derived.Test.YtodmofkeglfcaaaK
namespace Go.Proofs.Ytodmofkeglfcaaa.Ch
open Go Go.Proofs Go.Proofs.Ytodmofkeglfcaaa.Sx
set_option linter.unusedVariables false
set_option linter.unusedSimpArgs false

theorem one_byte {s : ByteArray} {i : Nat} (h : i < s.size) : s.extract i (i + 1) = strOf [(bytesOf s).getD i 0] := by
  refine bytesOf_inj ?_
  have hl : i < (bytesOf s).length := by rw [bytesOf_len]; exact h
  rw [bytesOf_strOf, bytesOf_extract, show i + 1 - i = 1 by omega, List.drop_eq_getElem_cons hl, getD_at hl]
  · rfl
  · intro b hb
    rw [List.mem_singleton] at hb
    subst hb
    rw [getD_at hl]
    exact byte_range (List.getElem_mem hl)
theorem rquote_step (s : ByteArray) (Q : Exit → SS → Prop) (hs : s.size ≤ 1000000) (hq : Q (.exit 0) (⟨58, [(3, .p (.c (.str (strOf (34 :: (bytesOf s).flatMap qB)))))], []⟩ : SS)) : W 0 Try.prog (.loop (lp Try.f19 0)) (stRQ s 0) Q := by
  refine W_all (stRQ s) s.size (fun _ => True) [0, 3, 4] [3] [] (fun i hi ho K hK => ?_)
  refine sx_ok (Λ := noLam) gok0 _ 0 _ _ noLam_ok ?_
  rw [vc_rquoteL]
  intro _
  have hlen : (bytesOf s).length = s.size := bytesOf_len s
  have hfl := flat_len ((bytesOf s).take i)
  rw [List.length_take] at hfl
  refine cond_of (fun hc => ?_) (fun hc => ?_)
  · have hc : i < s.size := by have := of_decide_eq_true hc; omega
    have ew : IntKind.i64.wrap ((i : Int) + 1) = ((i + 1 : Nat) : Int) := w64n (n := i + 1) (by omega)
    rw [ew, bt_get hc]
    have hK := hK hc trivial
    have hb := flat_succ (l := bytesOf s) (i := i) (by omega)
    have hsz : (strOf (34 :: ((bytesOf s).take i).flatMap qB)).size ≤ 2000001 := by rw [strOf_size, List.length_cons]; omega
    have e1 : s.extract (loN (some (i : Int))) (hiN s.size (some ((i + 1 : Nat) : Int))) = strOf [(bytesOf s).getD i 0] := one_byte hc
    have s1 : (strOf [(bytesOf s).getD i 0]).size = 1 := strOf_size _
    rw [e1, s1]
    have key : ∀ X : List Int, qB ((bytesOf s).getD i 0) = X → K { nt := 58, fr := [(0, .p (.c (.str s))), (3, .p (.c (.str (strOf (34 :: ((bytesOf s).take i).flatMap qB) ++ strOf X)))), (4, .p (.c (.int .i64 ((i + 1 : Nat) : Int))))], hp := [] } := by
      intro X e
      subst e
      rw [← strOf_app, ← hb]
      exact hK
    generalize hbb : (bytesOf s).getD i 0 = b at key ⊢
    simp only [maxI]
    have hi0 : (0 : Int) ≤ (i : Int) := by omega
    have hi1 : (i : Int) < (s.size : Int) := by omega
    refine ⟨hi0, hi1, cond_of (fun h1 => ?_) (fun h1 => ⟨hi0, hi1, cond_of (fun h2 => ?_) (fun h2 => ⟨hi0, hi1, fun _ => ⟨hi0, hi1, trivial⟩, cond_of (fun h3 => ?_) (fun h3 => ⟨hi0, hi1, cond_of (fun h4 => ?_) (fun h4 => ?_)⟩)⟩)⟩)⟩
    · have h1 : b = 10 := by simpa using h1
      exact ⟨by omega, key [92, 110] (by unfold qB; rw [if_pos h1])⟩
    all_goals have h1 : b ≠ 10 := by simpa using h1
    · have h2 : b = 9 := by simpa using h2
      exact ⟨by omega, key [92, 116] (by unfold qB; rw [if_neg h1, if_pos h2])⟩
    all_goals have h2 : b ≠ 9 := by simpa using h2
    · have h3 : b = 34 ∨ b = 92 := by simpa using h3
      have := key [92, b] (by unfold qB; rw [if_neg h1, if_neg h2, if_pos h3])
      rw [show strOf [92, b] = strOf [92] ++ strOf [b] from strOf_app [92] [b], ← ByteArray.append_assoc] at this
      refine ⟨by omega, hi0, by omega, by omega, ?_, this⟩
      rw [ByteArray.size_append]
      show _ + 1 + 1 ≤ _
      omega
    all_goals have h3 : ¬ (b = 34 ∨ b = 92) := by simpa using h3
    · have h4 : 32 ≤ b := by have := of_decide_eq_true h4; omega
      exact ⟨hi0, by omega, by omega, by omega, key [b] (by unfold qB; rw [if_neg h1, if_neg h2, if_neg h3, if_pos h4])⟩
    · have h4 : ¬ 32 ≤ b := by have := of_decide_eq_false h4; omega
      have := key [] (by unfold qB; rw [if_neg h1, if_neg h2, if_neg h3, if_neg h4])
      rw [strOf_nil, show ∀ x : ByteArray, x ++ ⟨#[]⟩ = x from fun x => ByteArray.append_empty] at this
      exact this
  · have hc : ¬ i < s.size := by have := of_decide_eq_false hc; omega
    have e : (bytesOf s).take i = bytesOf s := List.take_of_length_le (by omega)
    rw [e]
    exact hq
theorem rquote_ok : ∀ args h Q, quote_t args h Q → FSpec Try.prog 19 args h Q := trH_ok fun ((s, _) : ByteArray × Unit) _ Q ⟨hs, h⟩ => by
  have hs : s.size ≤ 1000000 := hs
  refine spec_body (Λ := lam [(0, rquote_l)]) gok0 Try.func19 rfl (lokl ⟨lam_ok (fun s Q hs ho => rquote_step s Q hs ho), trivial⟩) ?_
  show body Try.prog (gam []) (lam [(0, rquote_l)]) Try.f19 [.c (.str s)] [] _
  rw [vc_rquote]
  have hlen : (bytesOf s).length = s.size := bytesOf_len s
  have hfl := flat_len (bytesOf s)
  refine ⟨s, rfl, hs, by rw [strOf_size, List.length_cons]; simp only [maxI]; omega, ?_⟩
  have e : strOf (34 :: (bytesOf s).flatMap qB) ++ ⟨#[34]⟩ = strOf (quoteL (bytesOf s)) := by
    unfold quoteL
    rw [← List.cons_append, strOf_app]; rfl
  rw [e]
  exact h
/-! ### gaps -/
theorem gap0_step (s : ByteArray) (a : Nat) (Q : Exit → SS → Prop) (hs : a < s.size ∧ s.size ≤ 1000000) (hq : Q (.exit 0) (⟨108, [(6, .p (ti ((a + runV notNl ((bytesOf s).drop a) : Nat))))], []⟩ : SS)) : W 0 Try.prog (.loop (lp Try.f23 0)) (stG0 s a) Q := by
  have hlen : (bytesOf s).length = s.size := bytesOf_len s
  have hg : ∀ j, ((bytesOf s).drop a).getD j 0 = (bytesOf s).getD (a + j) 0 := fun j => by
    rw [List.getD_eq_getElem?_getD, List.getElem?_drop, List.getD_eq_getElem?_getD]
  refine W_all (fun j => stG0 s (a + j)) (s.size - a) (fun j => notNl (((bytesOf s).drop a).getD j 0) = true) [0, 6] [6] [] (fun i hi ho K hK => ?_)
  refine sx_ok (Λ := noLam) gok0 _ 0 _ _ noLam_ok ?_
  rw [vc_gap0L]
  intro _
  refine ⟨fun hd => ⟨by omega, of_decide_eq_true hd, trivial⟩, cond_of (fun hc => ?_) (fun hc => ?_)⟩
  · rw [Bool.and_eq_true] at hc
    have h1 : a + i < s.size := by have := of_decide_eq_true hc.1; omega
    have ew : IntKind.i64.wrap (((a + i : Nat) : Int) + 1) = ((a + (i + 1) : Nat) : Int) := w64n (n := a + i + 1) (by omega)
    rw [ew]
    refine hK (by omega) ?_
    rw [hg, ← bt_get h1]
    unfold notNl
    have := hc.2
    simp only [bne_iff_ne] at this
    rw [decide_eq_false this]; rfl
  · rw [run_at notNl ((bytesOf s).drop a) i ho (by rw [List.length_drop]; omega) (fun hlt => ?_)] at hq
    · exact hq
    · rw [List.length_drop] at hlt
      have h1 : a + i < s.size := by omega
      rw [decide_eq_true (by omega), Bool.true_and, bt_get h1, ← hg] at hc
      unfold notNl
      have hc : ((bytesOf s).drop a).getD i 0 = 10 := by simpa using hc
      rw [hc]; rfl
theorem closeL_cons (a : Int) (r : List Int) : closeL (a :: r) = if a = 42 ∧ r.head? = some 47 then some 0 else (closeL r).map (· + 1) := rfl
theorem closeL_two (a b : Int) (r : List Int) : closeL (a :: b :: r) = if a = 42 ∧ b = 47 then some 0 else (closeL (b :: r)).map (· + 1) := by
  by_cases h : a = 42 ∧ b = 47
  · rw [if_pos h, closeL_cons, if_pos ⟨h.1, by rw [h.2]; rfl⟩]
  · rw [if_neg h, closeL_cons, if_neg (fun ⟨x, y⟩ => h ⟨x, by simpa using y⟩)]
theorem gap2_step (s : ByteArray) (x : Nat) (Q : Exit → SS → Prop) (hs : x ≤ s.size ∧ s.size ≤ 1000000) (h1 : ∀ k, closeL ((bytesOf s).drop x) = some k → Q .ret (⟨108, [(4, .p (ti ((x + k + 2 : Nat)))), (5, .p (tb (decide (10 ∈ ((bytesOf s).drop x).take k))))], []⟩ : SS)) (h2 : closeL ((bytesOf s).drop x) = none → Q (.exit 2) (⟨108, [], []⟩ : SS)) : W 0 Try.prog (.loop (lp Try.f23 1)) (stG2 s false x) Q := by
  have hlen : (bytesOf s).length = s.size := bytesOf_len s
  refine W_loopE (fun y : Nat × Unit => stG2 s (decide (10 ∈ ((bytesOf s).drop x).take y.1)) (x + y.1)) (fun y => closeL ((bytesOf s).drop x) = (closeL ((bytesOf s).drop (x + y.1))).map (· + y.1) ∧ x + y.1 ≤ s.size) (fun y => s.size - (x + y.1)) [0, 7, 8] [] [4, 5] ?_ (0, ()) ⟨by simp, hs.1⟩
  rintro ⟨m, _⟩ ⟨e, hm⟩
  dsimp only at e hm ⊢
  refine sx_ok (Λ := noLam) gok0 _ 2 _ _ noLam_ok ?_
  rw [vc_gap2L]
  intro _
  have ew : IntKind.i64.wrap (((x + m : Nat) : Int) + 1) = ((x + m + 1 : Nat) : Int) := w64n (n := x + m + 1) (by omega)
  have ew2 : IntKind.i64.wrap (((x + m : Nat) : Int) + 2) = ((x + m + 2 : Nat) : Int) := w64n (n := x + m + 2) (by omega)
  rw [ew, ew2]
  refine cond_of (fun hc => ?_) (fun hc => ?_)
  · have hc : x + m + 1 < s.size := by have := of_decide_eq_true hc; omega
    have hc0 : x + m < s.size := by omega
    rw [drop_bt hc0, drop_bt hc, closeL_two, ← drop_bt hc] at e
    refine ⟨by omega, by omega, fun _ => ⟨by omega, by omega, trivial⟩, cond_of (fun h => ?_) (fun h => ⟨fun _ => ⟨by omega, by omega, trivial⟩, ?_⟩)⟩
    · have h : bt s ((x + m : Nat) : Int) = 42 ∧ bt s ((x + m + 1 : Nat) : Int) = 47 := by simpa using h
      rw [if_pos h] at e
      have := h1 m (by rw [e]; simp)
      exact this
    · have h : ¬ (bt s ((x + m : Nat) : Int) = 42 ∧ bt s ((x + m + 1 : Nat) : Int) = 47) := by
        rintro ⟨g1, g2⟩; rw [g1, g2] at h; simp at h
      rw [if_neg h, Option.map_map] at e
      have hmem : decide (10 ∈ ((bytesOf s).drop x).take (m + 1)) = (decide (10 ∈ ((bytesOf s).drop x).take m) || bt s ((x + m : Nat) : Int) == 10) := by
        have hx : m < ((bytesOf s).drop x).length := by rw [List.length_drop]; omega
        have hge : ((bytesOf s).drop x)[m] = bt s ((x + m : Nat) : Int) := by
          rw [bt_get hc0, List.getElem_drop, getD_at (by omega)]
        rw [List.take_add_one, List.getElem?_eq_getElem hx, hge]
        rw [Bool.eq_iff_iff]
        simp only [decide_eq_true_eq, Bool.or_eq_true, beq_iff_eq, List.mem_append, Option.toList_some, List.mem_singleton]
        constructor
        · rintro (h | h); exact .inl h; exact .inr h.symm
        · rintro (h | h); exact .inl h; exact .inr h.symm
      refine ⟨(m + 1, ()), ?_, ⟨?_, by show x + (m + 1) ≤ s.size; omega⟩, by show s.size - (x + (m + 1)) < s.size - (x + m); omega⟩
      · show _ = stG2 s (decide (10 ∈ ((bytesOf s).drop x).take (m + 1))) (x + (m + 1))
        rw [hmem]; rfl
      · show closeL ((bytesOf s).drop x) = (closeL ((bytesOf s).drop (x + (m + 1)))).map (· + (m + 1))
        rw [e]
        congr 1
        funext k
        show k + 1 + m = k + (m + 1)
        omega
  · have hc : ¬ x + m + 1 < s.size := by have := of_decide_eq_false hc; omega
    refine h2 ?_
    rw [e]
    rcases Nat.lt_or_ge (x + m) s.size with h | h
    · rw [drop_bt h, List.drop_eq_nil_of_le (by omega), closeL_cons]
      simp [closeL]
    · rw [List.drop_eq_nil_of_le (by omega)]
      simp [closeL]
theorem rgap_ok : ∀ args h Q, rgap_t args h Q → FSpec Try.prog 23 args h Q := trH_ok fun ((s, a, _) : ByteArray × Int × Unit) _ Q ⟨⟨ha, hn, hs⟩, h⟩ => by
  dsimp only at hn hs h
  have ha : (0 : Int) ≤ a := ha
  obtain ⟨n, rfl⟩ : ∃ n : Nat, a = n := ⟨a.toNat, by omega⟩
  rw [Int.toNat_natCast] at hn h
  refine spec_body (Λ := lam [(0, gap0_l), (2, gap2_l)]) gok0 Try.func23 rfl (lokl ⟨lam_ok (fun x Q hx hq => gap0_step x.1 x.2 Q hx hq), lam_ok (fun x Q hx ⟨h1, h2⟩ => gap2_step x.1 x.2 Q hx h1 h2), trivial⟩) ?_
  show body Try.prog (gam []) (lam [(0, gap0_l), (2, gap2_l)]) Try.f23 [.c (.str s), ti n] [] _
  rw [vc_rgap]
  have hlen : (bytesOf s).length = s.size := bytesOf_len s
  have ew : IntKind.i64.wrap ((n : Int) + 1) = ((n + 1 : Nat) : Int) := w64n (n := n + 1) (by omega)
  have ew2 : IntKind.i64.wrap ((n : Int) + 2) = ((n + 2 : Nat) : Int) := w64n (n := n + 2) (by omega)
  rw [ew, ew2]
  have h0 : (0 : Int) ≤ (n : Int) := by omega
  have h1 : (n : Int) < (s.size : Int) := by omega
  unfold rgapV gapL at h
  have ed : (bytesOf s).drop n = bt s (n : Int) :: (bytesOf s).drop (n + 1) := drop_bt hn
  have e0 : ((bytesOf s).drop n).getD 0 0 = bt s (n : Int) := by rw [ed]; rfl
  have ed2 : ((bytesOf s).drop n).drop 2 = (bytesOf s).drop (n + 2) := by rw [List.drop_drop]
  have et : ∀ y : Int, ((bytesOf s).drop n).take 2 = [47, y] ↔ bt s (n : Int) = 47 ∧ n + 1 < s.size ∧ bt s ((n + 1 : Nat) : Int) = y := by
    intro y
    rw [ed]
    rcases Nat.lt_or_ge (n + 1) s.size with hh | hh
    · rw [drop_bt hh]
      simp only [List.take_succ_cons, List.take_zero, List.cons.injEq, and_true]
      constructor
      · rintro ⟨p, q⟩; exact ⟨p, hh, q⟩
      · rintro ⟨p, _, q⟩; exact ⟨p, q⟩
    · rw [List.drop_eq_nil_of_le (by omega)]
      simp only [List.take_succ_cons, List.take_nil, List.cons.injEq]
      constructor
      · rintro ⟨_, q⟩; simp at q
      · rintro ⟨_, q, _⟩; omega
  rw [e0, ed2] at h
  generalize hb : bt s (n : Int) = b at h et ⊢
  generalize hcc : bt s ((n + 1 : Nat) : Int) = c at h et ⊢
  refine ⟨h0, h1, fun _ => ⟨h0, h1, trivial⟩, fun _ => ⟨h0, h1, trivial⟩, cond_of (fun g1 => ?_) (fun g1 => ⟨h0, h1, cond_of (fun g2 => ?_) (fun g2 => ⟨h0, h1, fun g => ?_, fun g => ?_, ?_⟩)⟩)⟩
  · have g1 : b = 32 ∨ b = 9 ∨ b = 13 := by
      simp only [Bool.or_eq_true, beq_iff_eq] at g1
      rcases g1 with (g | g) | g
      · exact .inl g
      · exact .inr (.inl g)
      · exact .inr (.inr g)
    rw [if_neg (by omega), if_pos g1] at h
    exact h
  · have g2 : b = 10 := by simpa using g2
    rw [if_pos g2] at h
    exact h
  all_goals
    have g1 : ¬ (b = 32 ∨ b = 9 ∨ b = 13) := by
      simp only [Bool.or_eq_false_iff, beq_eq_false_iff_ne] at g1
      rintro (g | g | g)
      · exact g1.1.1 g
      · exact g1.1.2 g
      · exact g1.2 g
    have g2 : b ≠ 10 := by simpa using g2
    rw [if_neg g2, if_neg g1] at h
  · simp only [Bool.or_eq_false_iff, decide_eq_false_iff_not] at g
    exact ⟨by omega, by omega, trivial⟩
  · obtain ⟨_, g⟩ := g
    simp only [Bool.or_eq_false_iff, decide_eq_false_iff_not] at g
    exact ⟨by omega, by omega, trivial⟩
  refine cond_of (fun g3 => ?_) (fun g3 => ?_)
  · have hno : ∀ y : Int, y = 47 ∨ y = 42 → ¬ (b = 47 ∧ n + 1 < s.size ∧ c = y) := by
      rintro y hy ⟨p, q, r⟩
      have d : decide (((n + 1 : Nat) : Int) ≥ (s.size : Int)) = false := decide_eq_false (by omega)
      rw [p, d, r] at g3
      rcases hy with rfl | rfl <;> simp at g3
    rw [if_neg (fun e => hno 47 (.inl rfl) ((et 47).1 e)), if_neg (fun e => hno 42 (.inr rfl) ((et 42).1 e))] at h
    simp only [Int.natCast_zero, Int.add_zero] at h
    exact h
  · simp only [Bool.or_eq_false_iff, Bool.and_eq_false_iff, bne_eq_false_iff_eq, decide_eq_false_iff_not] at g3
    obtain ⟨⟨p, q⟩, r⟩ := g3
    have q : n + 1 < s.size := by omega
    refine ⟨by omega, by omega, cond_of (fun g4 => ?_) (fun g4 => ?_)⟩
    · have g4 : c = 47 := by simpa using g4
      rw [if_pos ((et 47).2 ⟨p, q, g4⟩)] at h
      refine ⟨(s, n), rfl, ⟨hn, hs⟩, ?_⟩
      exact h
    · have g4 : c ≠ 47 := by simpa using g4
      have r : c = 42 := by rcases r with r | r; exact absurd r g4; exact r
      rw [if_neg (fun e => g4 ((et 47).1 e).2.2), if_pos ((et 42).2 ⟨p, q, r⟩)] at h
      refine ⟨(s, n + 2), rfl, ⟨by show n + 2 ≤ s.size; omega, hs⟩, fun k hk => ?_, fun hk => ?_⟩
      · have hk : closeL ((bytesOf s).drop (n + 2)) = some k := hk
        rw [hk] at h
        dsimp only at h
        have e : ((n : Int) + ((k + 4 : Nat) : Int)) = ((n + 2 + k + 2 : Nat) : Int) := by omega
        rw [e] at h
        exact h
      · have hk : closeL ((bytesOf s).drop (n + 2)) = none := hk
        rw [hk] at h
        exact h
/-! ### quoted texts -/
theorem rtext_loop (s : ByteArray) (a : Nat) (Q : Exit → SS → Prop) (hs : a < s.size ∧ s.size ≤ 1000000) (h1 : Q .ret (⟨54, [(4, .p (.c (.str (strOf (rtextV ((bytesOf s).drop a) a).1)))), (5, .p (ti (rtextV ((bytesOf s).drop a) a).2))], []⟩ : SS)) (h2 : textV ((bytesOf s).drop a) = none → Q (.exit 0) (⟨54, [], []⟩ : SS)) : W 0 Try.prog (.loop (lp Try.f38 0)) (stRT s [] (a + 1)) Q := by
  have hlen : (bytesOf s).length = s.size := bytesOf_len s
  have e0 : textV ((bytesOf s).drop a) = textL ((bytesOf s).drop (a + 1)) [] 1 := by unfold textV; rw [List.drop_drop]
  refine W_loopE (fun x : List Int × Nat => stRT s x.1 x.2) (fun x => textL ((bytesOf s).drop x.2) x.1 (x.2 - a) = textV ((bytesOf s).drop a) ∧ x.2 ≤ s.size ∧ a < x.2 ∧ x.1.length ≤ x.2) (fun x => s.size - x.2) [0, 6, 7] [] [4, 5] ?_ ([], a + 1) ⟨by show textL _ _ (a + 1 - a) = _; rw [e0, Nat.add_sub_cancel_left], hs.1, Nat.lt_succ_self a, Nat.zero_le _⟩
  rintro ⟨out, i⟩ ⟨e, hi, hai, ho⟩
  dsimp only at e hi hai ho ⊢
  refine sx_ok (Λ := noLam) gok0 _ 0 _ _ noLam_ok ?_
  rw [vc_rtextL]
  intro _
  have hnone : textV ((bytesOf s).drop a) = none → Q .ret (⟨54, [(4, .p (.c (.str ⟨#[]⟩))), (5, .p (.c (.int .i64 (-1))))], []⟩ : SS) := fun e => by
    have e2 : rtextV ((bytesOf s).drop a) a = ([], -1) := by unfold rtextV; rw [e]
    rw [e2] at h1
    exact h1
  have hlo : ∀ x : Int, (out ++ [x]).length = out.length + 1 := fun x => by simp
  refine cond_of (fun hc => ?_) (fun hc => ?_)
  · have hc : i < s.size := by have := of_decide_eq_true hc; omega
    rw [drop_bt hc, textL_cons] at e
    have ew : IntKind.i64.wrap ((i : Int) + 1) = ((i + 1 : Nat) : Int) := w64n (n := i + 1) (by omega)
    have ew2 : IntKind.i64.wrap (((i + 1 : Nat) : Int) + 1) = ((i + 2 : Nat) : Int) := w64n (n := i + 2) (by omega)
    rw [ew, ew2, vw_all]
    generalize hb : bt s (i : Int) = b at e ⊢
    refine ⟨by omega, by omega, cond_of (fun g1 => ?_) (fun g1 => cond_of (fun g2 => ?_) (fun g2 => cond_of (fun g3 => ?_) (fun g3 => ?_)))⟩
    · have g1 : b = 34 := by simpa using g1
      rw [if_pos g1] at e
      refine ⟨by omega, ?_⟩
      have e2 : rtextV ((bytesOf s).drop a) a = (out, ((i + 1 : Nat) : Int)) := by
        unfold rtextV; rw [← e]
        show (out, (a : Int) + ((i - a + 1 : Nat) : Int)) = _
        rw [show (a : Int) + ((i - a + 1 : Nat) : Int) = ((i + 1 : Nat) : Int) by omega]
      rw [e2] at h1
      exact h1
    all_goals
      have g1 : b ≠ 34 := by simpa using g1
      rw [if_neg g1] at e
    · have g2 : b < 32 := of_decide_eq_true g2
      rw [if_pos g2] at e
      exact hnone e.symm
    all_goals
      have g2 : ¬ b < 32 := of_decide_eq_false g2
      rw [if_neg g2] at e
    · have g3 : b = 92 := by simpa using g3
      rw [if_pos g3] at e
      intro _
      refine cond_of (fun g4 => ?_) (fun g4 => ?_)
      · have g4 : (s.size : Int) ≤ ((i + 1 : Nat) : Int) := of_decide_eq_true g4
        rw [List.drop_eq_nil_of_le (by omega)] at e
        exact hnone e.symm
      · have g4 : ¬ (s.size : Int) ≤ ((i + 1 : Nat) : Int) := of_decide_eq_false g4
        have hi1 : i + 1 < s.size := by omega
        rw [drop_bt hi1] at e
        dsimp only at e
        generalize bt s ((i + 1 : Nat) : Int) = c at e ⊢
        have go : ∀ x : Int, unesV c = x → x ≠ 0 → (out ++ [x]).length * 1 ≤ 140737488355328 ∧ ∃ y : List Int × Nat, ({ nt := 54, fr := [(0, .p (.c (.str s))), (6, .p (.c (.view (.int .u8) 0 0 (out ++ [x]).length))), (7, .p (.c (.int .i64 ((i + 2 : Nat) : Int))))], hp := [.row 5 (.int .u8) (out ++ [x])] } : SS) = stRT s y.1 y.2 ∧ (textL ((bytesOf s).drop y.2) y.1 (y.2 - a) = textV ((bytesOf s).drop a) ∧ y.2 ≤ s.size ∧ a < y.2 ∧ y.1.length ≤ y.2) ∧ s.size - y.2 < s.size - i := by
          intro x hx hx0
          rw [hx, if_neg hx0] at e
          refine ⟨by rw [hlo]; omega, (out ++ [x], i + 2), rfl, ⟨?_, by show i + 2 ≤ s.size; omega, by show a < i + 2; omega, by show (out ++ [x]).length ≤ i + 2; rw [hlo]; omega⟩, by show s.size - (i + 2) < s.size - i; omega⟩
          show textL ((bytesOf s).drop (i + 2)) (out ++ [x]) (i + 2 - a) = _
          rw [show i + 2 - a = i - a + 2 by omega]
          exact e
        refine ⟨by omega, by omega, cond_of (fun g5 => ?_) (fun g5 => cond_of (fun g6 => ?_) (fun g6 => cond_of (fun g7 => ?_) (fun g7 => cond_of (fun g8 => ?_) (fun g8 => ?_))))⟩
        · have g5 : c = 110 := by simpa using g5
          exact ⟨by omega, by omega, go 10 (by unfold unesV; rw [if_pos g5]) (by omega)⟩
        all_goals have g5 : c ≠ 110 := by simpa using g5
        · have g6 : c = 116 := by simpa using g6
          exact ⟨by omega, by omega, go 9 (by unfold unesV; rw [if_neg g5, if_pos g6]) (by omega)⟩
        all_goals have g6 : c ≠ 116 := by simpa using g6
        · have g7 : c = 34 := by simpa using g7
          exact ⟨by omega, by omega, by simp, by omega, go c (by unfold unesV; rw [if_neg g5, if_neg g6, if_pos g7, g7]) (by omega)⟩
        all_goals have g7 : c ≠ 34 := by simpa using g7
        · have g8 : c = 92 := by simpa using g8
          exact ⟨by omega, by omega, by simp, by omega, go c (by unfold unesV; rw [if_neg g5, if_neg g6, if_neg g7, if_pos g8, g8]) (by omega)⟩
        · have g8 : c ≠ 92 := by simpa using g8
          rw [if_pos (by unfold unesV; rw [if_neg g5, if_neg g6, if_neg g7, if_neg g8])] at e
          exact hnone e.symm
    · have g3 : b ≠ 92 := by simpa using g3
      rw [if_neg g3] at e
      refine ⟨by simp, by omega, by rw [hlo]; omega, ⟨(out ++ [b], i + 1), rfl, ⟨?_, by show i + 1 ≤ s.size; omega, by show a < i + 1; omega, by show (out ++ [b]).length ≤ i + 1; rw [hlo]; omega⟩, by show s.size - (i + 1) < s.size - i; omega⟩⟩
      show textL ((bytesOf s).drop (i + 1)) (out ++ [b]) (i + 1 - a) = _
      rw [show i + 1 - a = i - a + 1 by omega]
      exact e
  · have hc : ¬ i < s.size := by have := of_decide_eq_false hc; omega
    rw [List.drop_eq_nil_of_le (by omega)] at e
    exact h2 e.symm
theorem rtext_ok : ∀ args h Q, rtext_t args h Q → FSpec Try.prog 38 args h Q := trH_ok fun ((s, a, _) : ByteArray × Int × Unit) _ Q ⟨⟨ha, hn, hs⟩, h⟩ => by
  dsimp only at hn hs h
  have ha : (0 : Int) ≤ a := ha
  obtain ⟨n, rfl⟩ : ∃ n : Nat, a = n := ⟨a.toNat, by omega⟩
  rw [Int.toNat_natCast] at hn h
  refine spec_body (Λ := lam [(0, rtext_l)]) gok0 Try.func38 rfl (lokl ⟨lam_ok (fun x Q hx ⟨h1, h2⟩ => rtext_loop x.1 x.2 Q hx h1 h2), trivial⟩) ?_
  show body Try.prog (gam []) (lam [(0, rtext_l)]) Try.f38 [.c (.str s), ti n] [] _
  rw [vc_rtext]
  have ew : IntKind.i64.wrap ((n : Int) + 1) = ((n + 1 : Nat) : Int) := w64n (n := n + 1) (by omega)
  rw [ew]
  refine ⟨(s, n), rfl, ⟨hn, hs⟩, h, fun e => ?_⟩
  have e : textV ((bytesOf s).drop n) = none := e
  unfold rtextV at h
  rw [e] at h
  exact h
end Go.Proofs.Ytodmofkeglfcaaa.Ch
