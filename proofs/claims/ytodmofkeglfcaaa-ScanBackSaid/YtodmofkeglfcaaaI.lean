/- Chapter 02 (scan): operators, tokens, steps; Tokens: proved. No condition. -/
import Derived.Test.YtodmofkeglfcaaaH
namespace Go.Proofs.Ytodmofkeglfcaaa.Ch
open Go Go.Proofs Go.Proofs.Ytodmofkeglfcaaa.Sx
set_option linter.unusedVariables false
set_option linter.unusedSimpArgs false

theorem gokOp : GOK Try.prog (gam [(14, [], isop_t), (22, [], put_t)]) := gam_ok ⟨isop_ok, put_ok, trivial⟩
theorem op_ok : ∀ args h Q, op_t args h Q → FSpec Try.prog 47 args h Q := trH_ok fun _ (((r, f, l, c, m, _), out, _) : (ByteArray × Int × Int × Int × Nat × Unit) × List Tok × Unit) Q ⟨⟨⟨hm, ho, hr, hr2⟩, hb, hb2, hb3⟩, h⟩ => by
  dsimp only at hm ho hr hr2 hb hb2 hb3 h; subst hm
  refine spec_body (Λ := lam [(0, unr Try.prog (gam [(14, [], isop_t), (22, [], put_t)]) noLam (lp Try.f47 0) 0 3)]) gokOp Try.func47 rfl (lokl ⟨unr_all gokOp noLam_ok, trivial⟩) ?_
  show body Try.prog (gam [(14, [], isop_t), (22, [], put_t)]) (lam [(0, unr Try.prog (gam [(14, [], isop_t), (22, [], put_t)]) noLam (lp Try.f47 0) 0 3)]) Try.f47 [.c (.ptr 0 0)] (scH f (r, (l, c), out)) _
  rw [vc_op]
  intro _
  have hl : (bytesOf r).length = r.size := bytesOf_len r
  unfold tokS tokL at h
  dsimp only at h
  rw [if_neg (by rw [hb]; simp), if_neg (by rw [hb2]; simp), if_neg hb3] at h
  have e1 : strOf ((bytesOf r).take 1) = r.extract 0 1 := strOf_take hr
  have w1 : IntKind.i64.wrap ((2 : Int) - 1) = 1 := w64 (by omega) (by omega)
  have w0 : IntKind.i64.wrap ((1 : Int) - 1) = 0 := w64 (by omega) (by omega)
  have one : ∀ X : Prop, ¬ (2 ≤ (bytesOf r).length ∧ anyEq opers (strOf ((bytesOf r).take 2)) = true) → (0 : Int) ≤ 1 ∧ (1 : Int) ≤ (r.size : Int) ∧ bif anyEq opers (r.extract 0 (hiN r.size (some 1))) then (out.length = out.length ∧ (0 : Int) ≤ 1 ∧ Int.toNat 1 ≤ r.size ∧ out.length ≤ 1000000) ∧ Q (.p (ti 0)) (scH f (putV f 5 (r.extract 0 (hiN r.size (some 1))) (Int.toNat 1) (r, (l, c), out)))
      else bif decide ((0 : Int) > 0) then X else Q (.p (ti 5)) (scH f (r, (l, c), out)) := by
    intro X hn
    rw [if_neg hn, e1] at h
    refine ⟨by omega, by omega, cond_of (fun h1 => ?_) (fun h1 => ?_)⟩
    · have h1 : anyEq opers (r.extract 0 1) = true := h1
      rw [if_pos h1] at h
      dsimp only at h
      rw [e1] at h
      exact ⟨⟨rfl, by omega, hr, by omega⟩, h⟩
    · have h1 : anyEq opers (r.extract 0 1) = false := h1
      rw [if_neg (by rw [h1]; simp)] at h
      exact h
  rcases Nat.lt_or_ge r.size 2 with h2 | h2
  · have em : mn2 2 (r.size : Int) = 1 := by unfold mn2; rw [if_pos (by omega)]; omega
    rw [em, w0]
    refine cond_of (fun _ => one _ (by rw [hl]; omega)) (fun hc => ?_)
    exact absurd (of_decide_eq_false hc) (by omega)
  · have em : mn2 2 (r.size : Int) = 2 := by unfold mn2; rw [if_neg (by omega)]
    rw [em, w1, w0]
    refine cond_of (fun _ => ⟨by omega, by omega, cond_of (fun h1 => ?_) (fun h1 => ?_)⟩) (fun hc => absurd (of_decide_eq_false hc) (by omega))
    · have h1 : anyEq opers (r.extract 0 2) = true := h1
      rw [if_pos ⟨by omega, by rw [strOf_take h2]; exact h1⟩] at h
      dsimp only at h
      rw [strOf_take h2] at h
      exact ⟨⟨rfl, by show (0 : Int) ≤ 2; omega, h2, by omega⟩, h⟩
    · have h1 : anyEq opers (r.extract 0 2) = false := h1
      refine cond_of (fun _ => one _ ?_) (fun hc => absurd (of_decide_eq_false hc) (by omega))
      rw [strOf_take h2, h1]; simp
theorem textL_n : ∀ (k : Nat) (l acc : List Int) (n : Nat), l.length ≤ k → ∀ t m, textL l acc n = some (t, m) → n < m ∧ m ≤ n + l.length
  | 0, [], acc, n, _, t, m, h => by simp [textL] at h
  | 0, b :: l, acc, n, hk, t, m, h => by simp at hk
  | k + 1, [], acc, n, _, t, m, h => by simp [textL] at h
  | k + 1, b :: l, acc, n, hk, t, m, h => by
    rw [textL_cons] at h
    rw [List.length_cons] at hk ⊢
    split at h
    · cases h; omega
    · split at h
      · cases h
      · split at h
        · cases l with
          | nil => cases h
          | cons c r =>
            dsimp only at h
            split at h
            · cases h
            · rw [List.length_cons] at hk ⊢
              have := textL_n k r _ _ (by omega) t m h
              omega
        · have := textL_n k l _ _ (by omega) t m h
          omega
theorem textV_n {l : List Int} {t : List Int} {m : Nat} (h : textV l = some (t, m)) : 2 ≤ m ∧ m ≤ l.length := by
  unfold textV at h
  cases l with
  | nil => simp [textL] at h
  | cons b l =>
    have := textL_n l.length l [] 1 (Nat.le_refl _) t m h
    rw [List.length_cons]
    omega
theorem gokToken : GOK Try.prog (gam [(29, [], let_t), (39, [], dig_t), (44, [], word_t), (45, [], number_t), (46, [], text_t), (22, [], put_t), (47, [], op_t)]) := gam_ok ⟨let_ok, dig_ok, word_ok, number_ok, text_ok, put_ok, op_ok, trivial⟩
theorem token_ok : ∀ args h Q, token_t args h Q → FSpec Try.prog 35 args h Q := trH_ok fun _ (((r, f, l, c, m, _), out, _) : (ByteArray × Int × Int × Int × Nat × Unit) × List Tok × Unit) Q ⟨⟨hm, ho, hr, hr2⟩, h⟩ => by
  dsimp only at hm ho hr hr2 h; subst hm
  refine spec_body gokToken Try.func35 rfl noLam_ok ?_
  show body Try.prog (gam [(29, [], let_t), (39, [], dig_t), (44, [], word_t), (45, [], number_t), (46, [], text_t), (22, [], put_t), (47, [], op_t)]) noLam Try.f35 [.c (.ptr 0 0)] (scH f (r, (l, c), out)) _
  rw [vc_token]
  have e0 : bt r 0 = (bytesOf r).getD 0 0 := bt_get hr
  have hl : (bytesOf r).length = r.size := bytesOf_len r
  rw [e0]
  have hp : tokPre r out.length out := ⟨rfl, ho, hr, hr2⟩
  refine ⟨by omega, by omega, cond_of (fun h1 => ⟨⟨hp, h1⟩, ?_⟩) (fun h1 => cond_of (fun h2 => ⟨⟨hp, h1, h2⟩, h⟩) (fun h2 => cond_of (fun h3 => ⟨⟨hr, hr2⟩, ?_⟩) (fun h3 => ⟨⟨hp, h1, h2, by simpa using h3⟩, h⟩)))⟩
  · have e : (tokS f (r, (l, c), out)).1 = 0 := by unfold tokS tokL; dsimp only; rw [if_pos h1]
    rw [e] at h
    exact h
  · have h3 : (bytesOf r).getD 0 0 = 34 := by simpa using h3
    unfold tokS tokL at h
    dsimp only at h
    rw [if_neg (by rw [h1]; simp), if_neg (by rw [h2]; simp), if_pos h3] at h
    unfold textP
    cases ht : textV (bytesOf r) with
    | none =>
      rw [ht] at h
      exact h
    | some x =>
      obtain ⟨t, n⟩ := x
      rw [ht] at h
      obtain ⟨hn1, hn2⟩ := textV_n ht
      rw [hl] at hn2
      dsimp only [Option.getD] at h ⊢
      refine cond_of (fun h4 => ?_) (fun h4 => ?_)
      · have h4 : (n : Int) = 0 := by simpa using h4
        omega
      · exact ⟨⟨rfl, by show (0 : Int) ≤ (n : Int); omega, hn2, by omega⟩, h⟩
theorem gap_keep {f : Int} {s : Sc} (h : ¬ ((gapS f s).1.1 = true ∨ (gapS f s).1.2 ≠ 0)) : (gapS f s).2 = s := by
  unfold gapS at h ⊢
  split
  · rfl
  · rename_i n nl hg
    rw [hg] at h
    dsimp only at h
    by_cases hn : n = 0
    · rw [if_pos hn]
    · rw [if_neg hn] at h
      exact absurd (.inl rfl) h
theorem step_ok : ∀ args h Q, step_t args h Q → FSpec Try.prog 20 args h Q := trH_ok fun _ (((r, f, l, c, m, _), out, _) : (ByteArray × Int × Int × Int × Nat × Unit) × List Tok × Unit) Q ⟨⟨hm, ho, hr, hr2⟩, h⟩ => by
  dsimp only at hm ho hr hr2 h; subst hm
  refine spec_body (Γ := gam [(34, [], gap_t), (35, [], token_t)]) (gam_ok ⟨gap_ok, token_ok, trivial⟩) Try.func20 rfl noLam_ok ?_
  show body Try.prog (gam [(34, [], gap_t), (35, [], token_t)]) noLam Try.f20 [.c (.ptr 0 0)] (scH f (r, (l, c), out)) _
  rw [vc_step]
  unfold stepS at h
  refine ⟨⟨rfl, ho, hr, hr2⟩, cond_of (fun h1 => ?_) (fun h1 => ?_)⟩
  · have h1 : (gapS f (r, (l, c), out)).1.1 = true ∨ (gapS f (r, (l, c), out)).1.2 ≠ 0 := by simpa using h1
    rw [if_pos h1] at h
    exact h
  · have h1 : ¬ ((gapS f (r, (l, c), out)).1.1 = true ∨ (gapS f (r, (l, c), out)).1.2 ≠ 0) := by
      simp only [Bool.or_eq_false_iff, bne_eq_false_iff_eq] at h1
      rintro (h | h)
      · rw [h1.1] at h; cases h
      · exact h h1.2
    rw [if_neg h1, gap_keep h1] at h
    rw [gap_keep h1]
    exact ⟨⟨rfl, ho, hr, hr2⟩, h⟩
/-! ### a step goes on -/
theorem gapL_n {l : List Int} {n : Nat} {nl : Bool} (hl : 1 ≤ l.length) (h : gapL l = some (n, nl)) : n ≤ l.length := by
  unfold gapL at h
  split at h
  · cases h; exact hl
  · split at h
    · cases h; exact hl
    · split at h
      · cases h; exact run_le _ _
      · split at h
        · split at h
          · cases h
          · rename_i h4 _ k hc
            cases h
            have := closeL_le hc
            have h5 := congrArg List.length h4
            rw [List.length_take] at h5
            simp only [List.length_cons, List.length_nil] at h5
            rw [List.length_drop] at this
            omega
        · cases h; exact Nat.zero_le _
theorem tokL_n {l : List Int} {k : Int} {t : List Int} {n : Nat} (hl : 1 ≤ l.length) (h : tokL l = some (k, t, n)) : 1 ≤ n ∧ n ≤ l.length := by
  unfold tokL at h
  split at h
  · rename_i hb
    cases h
    refine ⟨run_pos ?_ hl, run_le _ _⟩
    unfold partB; rw [hb]; rfl
  · split at h
    · rename_i hb
      have hm : 1 ≤ (if l.getD 0 0 = 48 then 1 else runV digB l) ∧ (if l.getD 0 0 = 48 then 1 else runV digB l) ≤ l.length := by
        split
        · exact ⟨Nat.le_refl _, hl⟩
        · exact ⟨run_pos hb hl, run_le _ _⟩
      generalize (if l.getD 0 0 = 48 then 1 else runV digB l) = m at h hm
      split at h
      · cases h
      · cases h; exact hm
    · split at h
      · split at h
        · cases h
        · rename_i ht; cases h; have := textV_n ht; omega
      · split at h
        · rename_i h2; cases h; exact ⟨by omega, h2.1⟩
        · split at h
          · cases h; exact ⟨Nat.le_refl _, hl⟩
          · cases h
theorem pass_size (n : Nat) (s : Sc) : (passV n s).1.size = s.1.size - n := by
  show (s.1.extract n s.1.size).size = _
  rw [ByteArray.size_extract]; omega
theorem pass_out (n : Nat) (s : Sc) : (passV n s).2.2 = s.2.2 := rfl
theorem step_dec {f : Int} {s : Sc} (h1 : 1 ≤ s.1.size) (h : (stepS f s).1 = 0) : (stepS f s).2.1.size < s.1.size ∧ (stepS f s).2.2.2.length + (stepS f s).2.1.size ≤ s.2.2.length + s.1.size := by
  have hl : 1 ≤ (bytesOf s.1).length := by rw [bytesOf_len]; exact h1
  unfold stepS at h ⊢
  by_cases hc : (gapS f s).1.1 = true ∨ (gapS f s).1.2 ≠ 0
  · rw [if_pos hc] at h ⊢
    dsimp only at h ⊢
    unfold gapS at hc h ⊢
    cases hg : gapL (bytesOf s.1) with
    | none => rw [hg] at h; cases h
    | some x =>
      obtain ⟨n, nl⟩ := x
      rw [hg] at h hc
      have hn := gapL_n hl hg
      rw [bytesOf_len] at hn
      dsimp only at hc h ⊢
      by_cases h0 : n = 0
      · rw [if_pos h0] at hc; simp at hc
      · rw [if_neg h0] at h ⊢
        dsimp only
        rw [pass_size, pass_out]
        have e1 : (if nl = true then endV f s else s).1 = s.1 := by split; exact end_rest f s; rfl
        have e2 : (if nl = true then endV f s else s).2.2.length ≤ s.2.2.length + 1 := by split; exact end_len f s; exact Nat.le_succ _
        rw [e1]
        omega
  · rw [if_neg hc, gap_keep hc] at h ⊢
    unfold tokS at h ⊢
    cases ht : tokL (bytesOf s.1) with
    | none => rw [ht] at h; cases h
    | some x =>
      obtain ⟨k, t, n⟩ := x
      have hn := tokL_n hl ht
      rw [bytesOf_len] at hn
      dsimp only
      unfold putV
      rw [pass_size, pass_out]
      dsimp only
      rw [List.length_append]
      simp only [List.length_cons, List.length_nil]
      omega
theorem gokTok : GOK Try.prog (gam gTok) := gam_ok ⟨step_ok, end_ok, put_ok, trivial⟩
theorem empty_of {r : ByteArray} (h : r.size = 0) : r = ⟨#[]⟩ := by
  cases r with | mk d => congr; exact Array.eq_empty_of_size_eq_zero h
theorem scan_loop (f : Int) (r : ByteArray) (Q : Exit → SS → Prop) (hr : r.size ≤ 65536)
    (h1 : (scanS f r.size (s0 r)).1 ≠ 0 → Q .ret (⟨45, [(4, .p (.c .nils)), (5, .p (.c (.ptr 0 0)))], [.cells 28 [.int .i64 (scanS f r.size (s0 r)).1, .int .i64 f, .int .i64 (scanS f r.size (s0 r)).2.2.1.1, .int .i64 (scanS f r.size (s0 r)).2.2.1.2]]⟩ : SS))
    (h2 : (scanS f r.size (s0 r)).1 = 0 → (scanS f r.size (s0 r)).2.2.2.length ≤ 65536 → Q (.exit 0) (stS f (scanS f r.size (s0 r)).2)) : W 0 Try.prog (.loop (lp Try.f9 0)) (stS0 f r) Q := by
  refine W_ownH 36 tTok 1 4 ?_
  show W 0 Try.prog (.loop (lp Try.f9 0)) (stS f (s0 r)) Q
  refine W_loopE (fun x : Nat × Sc => stS f x.2) (fun x => scanS f x.1 x.2 = scanS f r.size (s0 r) ∧ x.2.1.size ≤ x.1 ∧ x.2.2.2.length + x.2.1.size ≤ r.size) (fun x => x.2.1.size) [5, 6] [5, 6] [4, 5] ?_ (r.size, s0 r) ⟨rfl, Nat.le_refl _, by simp⟩
  rintro ⟨k, s⟩ ⟨e, hk, ho⟩
  dsimp only at e hk ho ⊢
  refine sx_ok (Λ := noLam) gokTok _ 0 _ _ noLam_ok ?_
  rw [vc_scanL]
  refine cond_of (fun hc => ?_) (fun hc => ?_)
  · have hpos := size_pos (s := s.1) (by simpa using hc)
    refine ⟨⟨rfl, by omega, hpos, by omega⟩, ?_⟩
    cases k with
    | zero => omega
    | succ k =>
      have es : scanS f (k + 1) s = if (stepS f s).1 ≠ 0 then stepS f s else scanS f k (stepS f s).2 := by
        show (if s.1.size = 0 then (0, s) else _) = _
        rw [if_neg (by omega)]
      rw [es] at e
      refine cond_of (fun h3 => ?_) (fun h3 => ?_)
      · have h3 : (stepS f s).1 ≠ 0 := by simpa using h3
        rw [if_pos h3] at e
        rw [← e] at h1
        exact h1 h3
      · have h3 : (stepS f s).1 = 0 := by simpa using h3
        rw [if_neg (by rw [h3]; simp)] at e
        obtain ⟨d1, d2⟩ := step_dec hpos h3
        exact ⟨(k, (stepS f s).2), rfl, ⟨e, by show (stepS f s).2.1.size ≤ k; omega, by show (stepS f s).2.2.2.length + (stepS f s).2.1.size ≤ r.size; omega⟩, d1⟩
  · have h0 : s.1 = ⟨#[]⟩ := (strEq_iff _ _).1 (by simpa using hc)
    have hz : s.1.size = 0 := by rw [h0]; rfl
    have es : scanS f k s = (0, s) := by
      cases k with
      | zero => rfl
      | succ k => show (if s.1.size = 0 then (0, s) else _) = _; rw [if_pos hz]
    rw [es] at e
    rw [← e] at h2
    exact h2 rfl (by show s.2.2.length ≤ 65536; omega)
theorem row_nil {π : Pers} {ρ : Env} {t : Ty} {v : Value} (h : DenC π ρ .nils v) : DenC π ρ (.row t ([] : List t.T)) v := by
  have h : v = .slice none 0 0 := h
  exact ⟨none, 0, h, Nat.le_refl _, Nat.zero_le _, .inl rfl⟩
/-- A tuple's first part, where it is nil, is a row without elements. -/
theorem spec_nilT {P : Program} {f : FuncId} {args : List PV} {h : List HB} {Q : SV → List HB → Prop} (t : Ty) (hs : FSpec P f args h fun r h' => Q r h' ∨ ∃ l, r = .tup (.c .nils :: l) ∧ Q (.tup (.c (.row t ([] : List t.T)) :: l)) h') : FSpec P f args h Q := by
  intro π ρ w vs hh ha
  refine (hs π ρ w vs hh ha).mono ?_
  rintro _ w' ⟨v, π', ρ', r, h', rfl, h2, h3, h4, h5⟩
  rcases h5 with h5 | ⟨l, rfl, h5⟩
  · exact ⟨v, π', ρ', r, h', rfl, h2, h3, h4, h5⟩
  obtain ⟨us, rfl, h6⟩ := h2
  match us, h6 with
  | u :: us, h6 => exact ⟨_, π', ρ', .tup (.c (.row t ([] : List t.T)) :: l), h', rfl, ⟨u :: us, rfl, row_nil (ρ := ρ') h6.1, h6.2⟩, h3, h4, h5⟩
theorem tokens_ok : ∀ args h Q, tokens_t args h Q → FSpec Try.prog 9 args h Q := trH_ok fun ((f, r, _) : Int × ByteArray × Unit) _ Q h => by
  refine spec_drop (spec_frzL 0 [] (spec_nilT tTok ?_))
  refine spec_body (Λ := lam [(0, scan_l)]) gokTok Try.func9 rfl (lokl ⟨lam_ok (fun x Q hx ⟨h1, h2⟩ => scan_loop x.1 x.2 Q hx h1 h2), trivial⟩) ?_
  show body Try.prog (gam gTok) (lam [(0, scan_l)]) Try.f9 [ti f, .c (.str r)] [] _
  rw [vc_tokens]
  intro _
  dsimp only at h
  unfold tokensV at h
  refine cond_of (fun hc => ?_) (fun hc => ?_)
  · have hc : 65536 < r.size := by have := of_decide_eq_true hc; omega
    rw [if_pos hc] at h
    exact .inr ⟨_, rfl, .inl ⟨rfl, h⟩⟩
  · have hc : ¬ 65536 < r.size := by have := of_decide_eq_false hc; omega
    rw [if_neg hc] at h
    refine ⟨(f, r), rfl, by show r.size ≤ 65536; omega, fun he => ?_, fun he ho => ⟨⟨rfl, by omega⟩, ⟨rfl, by decide, Nat.zero_le _, ?_⟩, ?_⟩⟩
    · rw [if_pos he] at h
      exact .inr ⟨_, rfl, .inl ⟨rfl, h⟩⟩
    · have ho : (scanS f r.size (s0 r)).2.2.2.length ≤ 65536 := ho
      exact Nat.le_trans (end_len f (scanS f r.size (s0 r)).2) (by omega)
    · rw [if_neg (by rw [he]; simp)] at h
      refine .inl (.inr ⟨rfl, _, _, _, _, rfl, rfl, ⟨by show 0 + _ ≤ _; omega, trivial⟩, fun x hx => hx, rfl, ?_⟩)
      have e := vw_all (doneS f (scanS f r.size (s0 r)).2).2.2
      rw [← e] at h
      exact h
end Go.Proofs.Ytodmofkeglfcaaa.Ch
