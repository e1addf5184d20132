/- Chapter 02 (scan): the reference's tokens: proved. No condition. -/
import Derived.Test.YtodmofkeglfcaaaL
namespace Go.Proofs.Ytodmofkeglfcaaa.Ch
open Go Go.Proofs Go.Proofs.Ytodmofkeglfcaaa.Sx
set_option linter.unusedVariables false
set_option linter.unusedSimpArgs false

theorem drop_getD (l : List Int) (a j : Nat) : (l.drop a).getD j 0 = l.getD (a + j) 0 := by
  rw [List.getD_eq_getElem?_getD, List.getElem?_drop, List.getD_eq_getElem?_getD]
theorem strOf_piece {s : ByteArray} {a n : Nat} (h : a + n ≤ s.size) : strOf (((bytesOf s).drop a).take n) = s.extract a (a + n) := by
  refine bytesOf_inj ?_
  rw [bytesOf_strOf, bytesOf_extract, Nat.add_sub_cancel_left]
  intro b hb
  exact byte_range (List.mem_of_mem_drop (List.mem_of_mem_take hb))
theorem gokTk : GOK Try.prog (gam gTk) := gam_ok ⟨rlet_ok, rdig_ok, rword_ok, rop_ok, rtext_ok, trivial⟩
theorem tok1_step (s : ByteArray) (a : Nat) (Q : Exit → SS → Prop) (hs : a < s.size ∧ s.size ≤ 1000000) (hq : Q (.exit 1) (stRk s a (a + runV partB ((bytesOf s).drop a)))) : W 0 Try.prog (.loop (lp Try.f26 0)) (stRk s a a) Q := by
  have hlen : (bytesOf s).length = s.size := bytesOf_len s
  refine W_all (fun j => stRk s a (a + j)) (s.size - a) (fun j => partB (((bytesOf s).drop a).getD j 0) = true) [0, 1, 4, 6] [0, 1, 4, 6] [] (fun i hi ho K hK => ?_)
  refine sx_ok (Λ := noLam) gokTk _ 1 _ _ noLam_ok ?_
  rw [vc_tok1L]
  intro _
  have done : (a + i < s.size → partB (((bytesOf s).drop a).getD i 0) = false) → Q (.exit 1) (stRk s a (a + i)) := by
    intro hf
    rw [run_at partB ((bytesOf s).drop a) i ho (by rw [List.length_drop]; omega) (fun hlt => hf (by rw [List.length_drop] at hlt; omega))] at hq
    exact hq
  refine ⟨fun hd => ⟨by omega, of_decide_eq_true hd, trivial⟩, cond_of (fun hc => ?_) (fun hc => ?_)⟩
  · have h1 : a + i < s.size := by have := of_decide_eq_true hc; omega
    have ew : IntKind.i64.wrap (((a + i : Nat) : Int) + 1) = ((a + (i + 1) : Nat) : Int) := w64n (n := a + i + 1) (by omega)
    rw [ew, bt_get h1, ← drop_getD]
    refine ⟨fun _ => ⟨by omega, by omega, trivial⟩, cond_of (fun g => ?_) (fun g => ?_)⟩
    · exact hK (by omega) (by unfold partB; rw [g]; rfl)
    · rw [Bool.true_and, Bool.false_or]
      refine cond_of (fun g2 => ?_) (fun g2 => ?_)
      · exact hK (by omega) (by unfold partB; rw [g2, Bool.or_true])
      · exact done fun _ => by unfold partB; rw [g, g2]; rfl
  · have h1 : ¬ a + i < s.size := by have := of_decide_eq_false hc; omega
    exact ⟨fun h => (by cases h.2), done fun h => absurd h h1⟩
abbrev numN (l : List Int) : Nat := if l.getD 0 0 = 48 then 1 else runV digB l
theorem tok3_step (s : ByteArray) (a : Nat) (Q : Exit → SS → Prop) (hs : a < s.size ∧ s.size ≤ 1000000 ∧ digB ((bytesOf s).getD a 0) = true) (hq : Q (.exit 3) (stRk s a (a + (if (bytesOf s).getD a 0 = 48 then 1 else runV digB ((bytesOf s).drop a))))) : W 0 Try.prog (.loop (lp Try.f26 1)) (stRk s a a) Q := by
  have hlen : (bytesOf s).length = s.size := bytesOf_len s
  refine W_all (fun j => stRk s a (a + j)) (s.size - a) (fun j => digB (((bytesOf s).drop a).getD j 0) = true ∧ ((bytesOf s).getD a 0 ≠ 48 ∨ j = 0)) [0, 1, 4, 6] [0, 1, 4, 6] [] (fun i hi ho K hK => ?_)
  refine sx_ok (Λ := noLam) gokTk _ 3 _ _ noLam_ok ?_
  rw [vc_tok3L]
  intro _
  have done : (a + i < s.size → ¬ (digB (((bytesOf s).drop a).getD i 0) = true ∧ ((bytesOf s).getD a 0 ≠ 48 ∨ i = 0))) → Q (.exit 3) (stRk s a (a + i)) := by
    intro hf
    have e : (if (bytesOf s).getD a 0 = 48 then 1 else runV digB ((bytesOf s).drop a)) = i := by
      by_cases h48 : (bytesOf s).getD a 0 = 48
      · rw [if_pos h48]
        have hi0 : i ≠ 0 := by
          intro h0
          subst h0
          exact hf (by omega) ⟨by rw [drop_getD]; exact hs.2.2, .inr rfl⟩
        have hi2 : ¬ 1 < i := by
          intro h1
          rcases (ho 1 h1).2 with h | h
          · exact h h48
          · omega
        omega
      · rw [if_neg h48]
        refine run_at digB ((bytesOf s).drop a) i (fun j hj => (ho j hj).1) (by rw [List.length_drop]; omega) (fun hlt => ?_)
        rw [List.length_drop] at hlt
        cases hd : digB (((bytesOf s).drop a).getD i 0) with
        | false => rfl
        | true => exact absurd ⟨hd, .inl h48⟩ (hf (by omega))
    rw [e] at hq
    exact hq
  refine ⟨fun hd => ⟨by omega, of_decide_eq_true hd, trivial⟩, cond_of (fun hc => ?_) (fun hc => ?_)⟩
  · have h1 : a + i < s.size := by have := of_decide_eq_true hc; omega
    have ew : IntKind.i64.wrap (((a + i : Nat) : Int) + 1) = ((a + (i + 1) : Nat) : Int) := w64n (n := a + i + 1) (by omega)
    rw [ew, bt_get h1, bt_get hs.1, ← drop_getD]
    have e3 : (true && digB (((bytesOf s).drop a).getD i 0) && ((bytesOf s).getD a 0 != 48 || ((a + i : Nat) : Int) == (a : Int))) = true ↔ (digB (((bytesOf s).drop a).getD i 0) = true ∧ ((bytesOf s).getD a 0 ≠ 48 ∨ i = 0)) := by
      rw [Bool.true_and, Bool.and_eq_true, Bool.or_eq_true, bne_iff_ne, beq_iff_eq]
      constructor
      · rintro ⟨p, q | q⟩
        · exact ⟨p, .inl q⟩
        · exact ⟨p, .inr (by omega)⟩
      · rintro ⟨p, q | q⟩
        · exact ⟨p, .inl q⟩
        · exact ⟨p, .inr (by omega)⟩
    refine ⟨fun _ => ⟨by omega, by omega, trivial⟩, cond_of (fun g => ?_) (fun g => ?_)⟩
    · exact hK (by omega) (e3.1 g)
    · refine done fun _ hn => ?_
      rw [e3.2 hn] at g; cases g
  · have h1 : ¬ a + i < s.size := by have := of_decide_eq_false hc; omega
    exact ⟨fun h => (by cases h), done fun h => absurd h h1⟩
theorem rtok_ok : ∀ args h Q, rtok_t args h Q → FSpec Try.prog 26 args h Q := trH_ok fun ((s, a, _) : ByteArray × Int × Unit) _ Q ⟨⟨ha, hn, hs⟩, hnone, hsome⟩ => by
  dsimp only at hn hs hnone hsome
  have ha : (0 : Int) ≤ a := ha
  obtain ⟨n, rfl⟩ : ∃ n : Nat, a = n := ⟨a.toNat, by omega⟩
  rw [Int.toNat_natCast] at hn hnone hsome
  refine spec_body (Λ := lam [(1, tok1_l), (3, tok3_l), (5, unr Try.prog (gam gTk) noLam (lp Try.f26 2) 5 3)]) gokTk Try.func26 rfl (lokl ⟨lam_ok (fun x Q hx hq => tok1_step x.1 x.2 Q hx hq), lam_ok (fun x Q hx hq => tok3_step x.1 x.2 Q hx hq), unr_all gokTk noLam_ok, trivial⟩) ?_
  show body Try.prog (gam gTk) (lam [(1, tok1_l), (3, tok3_l), (5, unr Try.prog (gam gTk) noLam (lp Try.f26 2) 5 3)]) Try.f26 [.c (.str s), ti n] [] _
  rw [vc_rtok]
  have hlen : (bytesOf s).length = s.size := bytesOf_len s
  have hdl : ((bytesOf s).drop n).length = s.size - n := by rw [List.length_drop, hlen]
  have e0 : bt s (n : Int) = ((bytesOf s).drop n).getD 0 0 := by rw [bt_get hn, drop_getD]; rfl
  have e0' : (bytesOf s).getD n 0 = ((bytesOf s).drop n).getD 0 0 := by rw [drop_getD]; rfl
  rw [e0]
  have h0 : (0 : Int) ≤ (n : Int) := by omega
  have h1 : (n : Int) < (s.size : Int) := by omega
  have hN : ∀ k t, Q (.tup [.agg [.int .i64 k, .str t, .int .i64 0, .int .i64 0, .int .i64 0], ti (-1)]) [] ∨ tokL ((bytesOf s).drop n) ≠ none := fun k t => by
    by_cases h : tokL ((bytesOf s).drop n) = none
    · exact .inl (hnone h k t)
    · exact .inr h
  refine ⟨h0, h1, cond_of (fun g1 => ?_) (fun g1 => ⟨h0, h1, cond_of (fun g2 => ?_) (fun g2 => ⟨h0, h1, cond_of (fun g3 => ?_) (fun g3 => ?_)⟩)⟩)⟩
  · -- a word
    have hr := run_le partB ((bytesOf s).drop n)
    rw [hdl] at hr
    have es : s.extract n (n + runV partB ((bytesOf s).drop n)) = strOf (((bytesOf s).drop n).take (runV partB ((bytesOf s).drop n))) := (strOf_piece (by omega)).symm
    have et : tokL ((bytesOf s).drop n) = some (if anyEq kwords (strOf (((bytesOf s).drop n).take (runV partB ((bytesOf s).drop n)))) = true then 6 else 2, ((bytesOf s).drop n).take (runV partB ((bytesOf s).drop n)), runV partB ((bytesOf s).drop n)) := by unfold tokL; rw [if_pos g1]
    have := hsome _ _ _ et
    have ec : ((n : Int) + (runV partB ((bytesOf s).drop n) : Nat)) = ((n + runV partB ((bytesOf s).drop n) : Nat) : Int) := by omega
    rw [ec, ← es] at this
    refine ⟨(s, n), rfl, ⟨hn, hs⟩, by show (0 : Int) ≤ (n : Int); omega, by show (n : Int) ≤ ((n + runV partB ((bytesOf s).drop n) : Nat) : Int); omega, by show ((n + runV partB ((bytesOf s).drop n) : Nat) : Int) ≤ (s.size : Int); omega, ?_, ?_⟩
    · show (s.extract n (n + runV partB ((bytesOf s).drop n))).size ≤ 1000000
      rw [es, strOf_size, List.length_take]; omega
    · show bif anyEq kwords (s.extract n (n + runV partB ((bytesOf s).drop n))) then _ else _
      refine cond_of (fun g => ?_) (fun g => ?_)
      · rw [if_pos g] at this
        exact ⟨by show (0 : Int) ≤ (n : Int); omega, by show (n : Int) ≤ ((n + runV partB ((bytesOf s).drop n) : Nat) : Int); omega, by show ((n + runV partB ((bytesOf s).drop n) : Nat) : Int) ≤ (s.size : Int); omega, this⟩
      · rw [if_neg (by rw [g]; simp)] at this
        exact ⟨by show (0 : Int) ≤ (n : Int); omega, by show (n : Int) ≤ ((n + runV partB ((bytesOf s).drop n) : Nat) : Int); omega, by show ((n + runV partB ((bytesOf s).drop n) : Nat) : Int) ≤ (s.size : Int); omega, this⟩
  · -- a number
    refine ⟨(s, n), rfl, ⟨hn, hs, by show digB ((bytesOf s).getD n 0) = true; rw [e0']; exact g2⟩, fun _ => ?_⟩
    show (decide (((n + (if (bytesOf s).getD n 0 = 48 then 1 else runV digB ((bytesOf s).drop n)) : Nat) : Int) < (s.size : Int)) = true → _) ∧ _
    have hm1 : numN ((bytesOf s).drop n) ≤ s.size - n := by
      unfold numN
      split
      · omega
      · have := run_le digB ((bytesOf s).drop n); omega
    have et : tokL ((bytesOf s).drop n) = if numN ((bytesOf s).drop n) < ((bytesOf s).drop n).length ∧ partB (((bytesOf s).drop n).getD (numN ((bytesOf s).drop n)) 0) = true then none else some (3, ((bytesOf s).drop n).take (numN ((bytesOf s).drop n)), numN ((bytesOf s).drop n)) := by unfold tokL; rw [if_neg (by rw [g1]; simp), if_pos g2]
    dsimp only
    rw [e0']
    have em : (if ((bytesOf s).drop n).getD 0 0 = 48 then 1 else runV digB ((bytesOf s).drop n)) = numN ((bytesOf s).drop n) := rfl
    rw [em]
    generalize hm : numN ((bytesOf s).drop n) = m at et hm1 ⊢
    rw [hdl] at et
    have es : s.extract n (n + m) = strOf (((bytesOf s).drop n).take m) := (strOf_piece (by omega)).symm
    have ec : ((n : Int) + (m : Nat)) = ((n + m : Nat) : Int) := by omega
    have good : ¬ (m < s.size - n ∧ partB (((bytesOf s).drop n).getD m 0) = true) → Q (.tup [.agg [.int .i64 3, .str (s.extract n (n + m)), .int .i64 0, .int .i64 0, .int .i64 0], ti ((n + m : Nat) : Int)]) [] := by
      intro hh
      rw [if_neg hh] at et
      have := hsome _ _ _ et
      rw [ec, ← es] at this
      exact this
    have bad : (m < s.size - n ∧ partB (((bytesOf s).drop n).getD m 0) = true) → Q (.tup [.agg [.int .i64 0, .str ⟨#[]⟩, .int .i64 0, .int .i64 0, .int .i64 0], ti (-1)]) [] := by
      intro hh
      rw [if_pos hh] at et
      exact hnone et _ _
    refine ⟨fun hd => ⟨by omega, of_decide_eq_true hd, trivial⟩, cond_of (fun g => ?_) (fun g => ?_)⟩
    · have g : n + m < s.size := by have := of_decide_eq_true g; omega
      rw [bt_get g, ← drop_getD]
      refine ⟨fun _ => ⟨by omega, by omega, trivial⟩, cond_of (fun g4 => ?_) (fun g4 => ?_)⟩
      · exact bad ⟨by omega, by unfold partB; rw [g4]; rfl⟩
      · rw [Bool.true_and, Bool.false_or]
        refine cond_of (fun g5 => ?_) (fun g5 => ?_)
        · exact bad ⟨by omega, by unfold partB; rw [g5, Bool.or_true]⟩
        · exact ⟨by omega, by omega, by omega, good fun hh => by have := hh.2; unfold partB at this; rw [g4, g5] at this; cases this⟩
    · have g : ¬ n + m < s.size := by have := of_decide_eq_false g; omega
      exact ⟨fun hh => (by cases hh.2), by omega, by omega, by omega, good fun hh => by omega⟩
  · -- a text
    have g3 : ((bytesOf s).drop n).getD 0 0 = 34 := by simpa using g3
    refine ⟨⟨h0, by rw [Int.toNat_natCast]; exact hn, hs⟩, ?_⟩
    rw [Int.toNat_natCast]
    have et : tokL ((bytesOf s).drop n) = match textV ((bytesOf s).drop n) with | none => none | some (t, m) => some (4, t, m) := by unfold tokL; rw [if_neg (by rw [g1]; simp), if_neg (by rw [g2]; simp), if_pos g3]; rfl
    unfold rtextV
    cases ht : textV ((bytesOf s).drop n) with
    | none => rw [ht] at et; exact hnone et _ _
    | some x =>
      obtain ⟨t, m⟩ := x
      rw [ht] at et
      exact hsome _ _ _ et
  · -- an operator
    have g3 : ((bytesOf s).drop n).getD 0 0 ≠ 34 := by simpa using g3
    intro _
    have et : tokL ((bytesOf s).drop n) = if 2 ≤ s.size - n ∧ anyEq opers (strOf (((bytesOf s).drop n).take 2)) = true then some (5, ((bytesOf s).drop n).take 2, 2) else if anyEq opers (strOf (((bytesOf s).drop n).take 1)) = true then some (5, ((bytesOf s).drop n).take 1, 1) else none := by
      unfold tokL; rw [if_neg (by rw [g1]; simp), if_neg (by rw [g2]; simp), if_neg g3, hdl]
    have ew : IntKind.i64.wrap ((s.size : Int) - (n : Int)) = ((s.size - n : Nat) : Int) := by rw [w64 (by omega) (by omega)]; omega
    have ew1 : IntKind.i64.wrap ((n : Int) + 1) = ((n + 1 : Nat) : Int) := w64n (n := n + 1) (by omega)
    have ew2 : IntKind.i64.wrap ((n : Int) + 2) = ((n + 2 : Nat) : Int) := w64n (n := n + 2) (by omega)
    rw [ew, ew1, ew2]
    have x1 : s.extract (loN (some (n : Int))) (hiN s.size (some ((n + 1 : Nat) : Int))) = strOf (((bytesOf s).drop n).take 1) := (strOf_piece (s := s) (a := n) (n := 1) (by omega)).symm
    rw [x1]
    have z1 : (strOf (((bytesOf s).drop n).take 1)).size ≤ 1000000 := by rw [strOf_size, List.length_take]; omega
    have one : ¬ (2 ≤ s.size - n ∧ anyEq opers (strOf (((bytesOf s).drop n).take 2)) = true) →
        s.size ≤ maxI → (decide (((s.size - n : Nat) : Int) ≥ 1) = true → (0 : Int) ≤ (n : Int) ∧ (n : Int) ≤ ((n + 1 : Nat) : Int) ∧ ((n + 1 : Nat) : Int) ≤ (s.size : Int) ∧ True) ∧ bif decide (((s.size - n : Nat) : Int) ≥ 1) then (strOf (((bytesOf s).drop n).take 1)).size ≤ 1000000 ∧ bif true && anyEq opers (strOf (((bytesOf s).drop n).take 1)) then (0 : Int) ≤ (n : Int) ∧ (n : Int) ≤ ((n + 1 : Nat) : Int) ∧ ((n + 1 : Nat) : Int) ≤ (s.size : Int) ∧ Q (.tup [.agg [.int .i64 5, .str (strOf (((bytesOf s).drop n).take 1)), .int .i64 0, .int .i64 0, .int .i64 0], ti ((n + 1 : Nat) : Int)]) []
        else Q (.tup [.agg [.int .i64 0, .str ⟨#[]⟩, .int .i64 0, .int .i64 0, .int .i64 0], ti (-1)]) [] else Q (.tup [.agg [.int .i64 0, .str ⟨#[]⟩, .int .i64 0, .int .i64 0, .int .i64 0], ti (-1)]) [] := by
      intro hn2 _
      rw [if_neg hn2] at et
      refine ⟨fun _ => ⟨by omega, by omega, by omega, trivial⟩, cond_of (fun _ => ⟨z1, ?_⟩) (fun g => absurd (of_decide_eq_false g) (by omega))⟩
      rw [Bool.true_and]
      refine cond_of (fun g => ?_) (fun g => ?_)
      · rw [if_pos g] at et
        exact ⟨by omega, by omega, by omega, hsome _ _ _ et⟩
      · rw [if_neg (by rw [g]; simp)] at et
        exact hnone et _ _
    refine ⟨fun g => ?_, cond_of (fun g => ?_) (fun g => one fun hh => absurd (of_decide_eq_false g) (by omega))⟩
    · have := of_decide_eq_true g
      exact ⟨by omega, by omega, by omega, trivial⟩
    · have g : 2 ≤ s.size - n := by have := of_decide_eq_true g; omega
      have x2 : s.extract (loN (some (n : Int))) (hiN s.size (some ((n + 2 : Nat) : Int))) = strOf (((bytesOf s).drop n).take 2) := (strOf_piece (s := s) (a := n) (n := 2) (by omega)).symm
      rw [x2, Bool.true_and]
      refine ⟨by rw [strOf_size, List.length_take]; omega, cond_of (fun g4 => ?_) (fun g4 => one fun hh => by rw [hh.2] at g4; cases g4)⟩
      rw [if_pos ⟨g, g4⟩] at et
      exact ⟨by omega, by omega, by omega, hsome _ _ _ et⟩
end Go.Proofs.Ytodmofkeglfcaaa.Ch
