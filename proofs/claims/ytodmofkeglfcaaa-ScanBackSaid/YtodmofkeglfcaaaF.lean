/- Chapter 02 (scan): what a quoted text stands for; bytes that are passed; tokens that are put; a line's end: proved. No condition. -/
import Derived.Test.YtodmofkeglfcaaaE
namespace Go.Proofs.Ytodmofkeglfcaaa.Ch
open Go Go.Proofs Go.Proofs.Ytodmofkeglfcaaa.Sx
set_option linter.unusedVariables false
set_option linter.unusedSimpArgs false

/-! ### quoted texts -/
theorem textL_cons (b : Int) (l acc : List Int) (n : Nat) : textL (b :: l) acc n = if b = 34 then some (acc, n + 1) else if b < 32 then none else if b = 92 then (match l with | [] => none | c :: r => if unesV c = 0 then none else textL r (acc ++ [unesV c]) (n + 2)) else textL l (acc ++ [b]) (n + 1) := by
  cases l with
  | nil =>
    show (if b = 34 then some (acc, n + 1) else none) = _
    split
    · rfl
    · split
      · rfl
      · split <;> rfl
  | cons c r => rfl
theorem drop_bt {s : ByteArray} {i : Nat} (h : i < s.size) : (bytesOf s).drop i = bt s (i : Int) :: (bytesOf s).drop (i + 1) := by
  have hl : i < (bytesOf s).length := by rw [bytesOf_len]; exact h
  rw [bt_get h, getD_at hl, ← List.drop_eq_getElem_cons hl]
theorem strOf_nil : strOf [] = ⟨#[]⟩ := rfl
theorem gokText : GOK Try.prog (gam [(51, [], unes_t)]) := gam_ok ⟨unes_ok, trivial⟩
theorem text_loop (s : ByteArray) (Q : Exit → SS → Prop) (hs : 1 ≤ s.size ∧ s.size ≤ 1000000) (h1 : Q .ret (⟨50, [(2, .p (.c (.str (strOf (textP (bytesOf s)).1)))), (3, .p (ti ((textP (bytesOf s)).2 : Nat)))], []⟩ : SS)) (h2 : textP (bytesOf s) = ([], 0) → Q (.exit 0) (⟨50, [], []⟩ : SS)) : W 0 Try.prog (.loop (lp Try.f46 0)) (stT0 s) Q := by
  refine W_ownF 5 (.int .u8) 4 ?_
  show W 0 Try.prog (.loop (lp Try.f46 0)) (stT s [] 1) Q
  refine W_loopE (fun x : List Int × Nat => stT s x.1 x.2) (fun x => textL ((bytesOf s).drop x.2) x.1 x.2 = textV (bytesOf s) ∧ x.2 ≤ s.size ∧ x.1.length ≤ x.2) (fun x => s.size - x.2) [0, 4, 5] [] [2, 3] ?_ ([], 1) ⟨rfl, hs.1, by simp⟩
  rintro ⟨out, i⟩ ⟨e, hi, ho⟩
  dsimp only at e hi ho ⊢
  refine sx_ok (Λ := noLam) gokText _ 0 _ _ noLam_ok ?_
  rw [vc_textL]
  intro _
  have hnone : textV (bytesOf s) = none → Q .ret (⟨50, [(2, .p (.c (.str ⟨#[]⟩))), (3, .p (.c (.int .i64 0)))], []⟩ : SS) := fun e => by
    have e2 : textP (bytesOf s) = ([], 0) := by unfold textP; rw [e]; rfl
    rw [e2] at h1
    exact h1
  refine cond_of (fun hc => ?_) (fun hc => ?_)
  · have hc : i < s.size := by have := of_decide_eq_true hc; omega
    rw [drop_bt hc, textL_cons] at e
    have ew : IntKind.i64.wrap ((i : Int) + 1) = ((i + 1 : Nat) : Int) := w64n (n := i + 1) (by omega)
    have ew2 : IntKind.i64.wrap (((i + 1 : Nat) : Int) + 1) = ((i + 2 : Nat) : Int) := w64n (n := i + 2) (by omega)
    rw [ew, ew2, vw_all]
    generalize hb : bt s (i : Int) = b at e ⊢
    have hlo : ∀ x : Int, (out ++ [x]).length = out.length + 1 := fun x => by simp
    refine ⟨by omega, by omega, cond_of (fun g1 => ?_) (fun g1 => cond_of (fun g2 => ?_) (fun g2 => cond_of (fun g3 => ?_) (fun g3 => ?_)))⟩
    · have g1 : b = 34 := by simpa using g1
      rw [if_pos g1] at e
      refine ⟨by omega, ?_⟩
      have e2 : textP (bytesOf s) = (out, i + 1) := by unfold textP; rw [← e]; rfl
      rw [e2] at h1
      exact h1
    all_goals
      have g1 : b ≠ 34 := by simpa using g1
      rw [if_neg g1] at e
    · have g2 : b < 32 := of_decide_eq_true g2
      rw [if_pos g2] at e
      exact hnone e.symm
    all_goals
      have g2 : ¬ b < 32 := of_decide_eq_false g2
      rw [if_neg g2] at e
    · have g3 : b = 92 := by simpa using g3
      rw [if_pos g3] at e
      intro _
      refine ⟨fun hne => ?_, cond_of (fun g4 => ?_) (fun g4 => ?_)⟩
      · have : ((i + 1 : Nat) : Int) ≠ (s.size : Int) := by simpa using hne
        exact ⟨by omega, by omega, trivial⟩
      · have g4 : ((i + 1 : Nat) : Int) = (s.size : Int) := by simpa using g4
        rw [List.drop_eq_nil_of_le (by rw [bytesOf_len]; omega)] at e
        exact hnone e.symm
      · have g4 : ((i + 1 : Nat) : Int) ≠ (s.size : Int) := by simpa using g4
        have hi1 : i + 1 < s.size := by omega
        rw [drop_bt hi1] at e
        dsimp only at e
        generalize bt s ((i + 1 : Nat) : Int) = c at e ⊢
        refine cond_of (fun g5 => ?_) (fun g5 => ?_)
        · have g5 : unesV c = 0 := by simpa using g5
          rw [if_pos g5] at e
          exact hnone e.symm
        · have g5 : unesV c ≠ 0 := by simpa using g5
          rw [if_neg g5] at e
          refine ⟨by omega, by omega, by simp, by omega, by rw [hlo]; omega, ⟨(out ++ [unesV c], i + 2), rfl, ⟨e, by show i + 2 ≤ s.size; omega, by show (out ++ [unesV c]).length ≤ i + 2; rw [hlo]; omega⟩, by show s.size - (i + 2) < s.size - i; omega⟩⟩
    · have g3 : b ≠ 92 := by simpa using g3
      rw [if_neg g3] at e
      refine ⟨by simp, by omega, by rw [hlo]; omega, ⟨(out ++ [b], i + 1), rfl, ⟨e, by show i + 1 ≤ s.size; omega, by show (out ++ [b]).length ≤ i + 1; rw [hlo]; omega⟩, by show s.size - (i + 1) < s.size - i; omega⟩⟩
  · have hc : ¬ i < s.size := by have := of_decide_eq_false hc; omega
    rw [List.drop_eq_nil_of_le (by rw [bytesOf_len]; omega)] at e
    refine h2 ?_
    unfold textP
    rw [← e]; rfl
theorem text_ok : ∀ args h Q, text_t args h Q → FSpec Try.prog 46 args h Q := trH_ok fun ((s, _) : ByteArray × Unit) _ Q ⟨hs, h⟩ => by
  refine spec_body (Λ := lam [(0, text_l)]) gokText Try.func46 rfl (lokl ⟨lam_ok (fun s Q hs ⟨h1, h2⟩ => text_loop s Q hs h1 h2), trivial⟩) ?_
  show body Try.prog (gam [(51, [], unes_t)]) (lam [(0, text_l)]) Try.f46 [.c (.str s)] [] _
  rw [vc_text]
  refine ⟨s, rfl, hs, h, fun e => ?_⟩
  dsimp only at h
  rw [e] at h
  exact h
/-! ### passing -/
theorem take_bytes {r : ByteArray} {n : Nat} (h : n ≤ r.size) : bytesOf (r.extract 0 n) = (bytesOf r).take n := by rw [bytesOf_extract, List.drop_zero, Nat.sub_zero]
theorem lcV_succ {l : List Int} {i : Nat} (h : i < l.length) (x : Int × Int) : lcV (l.take (i + 1)) x = lcB (lcV (l.take i) x) (l.getD i 0) := by
  unfold lcV
  rw [List.take_add_one, List.getElem?_eq_getElem h, getD_at h, List.foldl_append]
  rfl
theorem pass_loop (f : Int) (s : Sc) (n : Nat) (Q : Exit → SS → Prop) (hn : n ≤ s.1.size) (hq : Q (.exit 0) (⟨53, [(0, .p (.c (.ptr 0 0))), (1, .p (ti n))], scH f (s.1, lcV ((bytesOf s.1).take n) s.2.1, s.2.2)⟩ : SS)) (hm : n ≤ maxI) : W 2 Try.prog (.loop (lp Try.f37 0)) (stP f s n 0) Q := by
  obtain ⟨r, ⟨l, c⟩, out⟩ := s
  dsimp only at hn hm hq
  have hl : (bytesOf (r.extract 0 n)).length = n := by rw [take_bytes hn, List.length_take, bytesOf_len]; omega
  refine W_all (stP f (r, (l, c), out) n) n (fun _ => True) [0, 1, 12, 13, 14] [0, 1] [] (fun i hi ho K hK => ?_)
  refine sx_ok (Λ := noLam) gok0 _ 0 _ _ noLam_ok ?_
  rw [vc_passL]
  simp only [maxI] at hm
  refine cond_of (fun hc => ?_) (fun hc => ?_)
  · have hc : i < n := by have := of_decide_eq_true hc; omega
    have hK := hK hc trivial
    have ew : IntKind.i64.wrap ((i : Int) + 1) = ((i + 1 : Nat) : Int) := w64n (n := i + 1) (by omega)
    have es := lcV_succ (l := bytesOf (r.extract 0 n)) (i := i) (by omega) (l, c)
    rw [ew]
    have ei : ((i : Int)).toNat = i := rfl
    rw [ei]
    refine ⟨by omega, by omega, by omega, cond_of (fun hb => ?_) (fun hb => ?_)⟩
    · have hb : (bytesOf (r.extract 0 n)).getD i 0 = 10 := by simpa using hb
      unfold lcB at es
      rw [if_pos hb] at es
      unfold stP scH at hK
      dsimp only at hK
      rw [es] at hK
      exact hK
    · have hb : (bytesOf (r.extract 0 n)).getD i 0 ≠ 10 := by simpa using hb
      unfold lcB at es
      rw [if_neg hb] at es
      unfold stP scH at hK
      dsimp only at hK
      rw [es] at hK
      exact hK
  · have hc : ¬ i < n := by have := of_decide_eq_false hc; omega
    obtain rfl : i = n := by omega
    have e : (bytesOf (r.extract 0 i)).take i = (bytesOf r).take i := by rw [take_bytes hn, List.take_take, Nat.min_self]
    rw [e]
    exact hq
end Go.Proofs.Ytodmofkeglfcaaa.Ch
