/- Chapter 02 (scan): the reference's Tokens, Same: proved. No condition. -/
import Derived.Test.YtodmofkeglfcaaaM
namespace Go.Proofs.Ytodmofkeglfcaaa.Ch
open Go Go.Proofs Go.Proofs.Ytodmofkeglfcaaa.Sx
set_option linter.unusedVariables false
set_option linter.unusedSimpArgs false

/-- The scanner at a place. -/
abbrev scA (s : ByteArray) (a : Nat) (out : List Tok) : Sc := (s.extract a s.size, lcV ((bytesOf s).take a) (1, 1), out)
theorem bytes_at (s : ByteArray) (a : Nat) : bytesOf (s.extract a s.size) = (bytesOf s).drop a := by
  rw [bytesOf_extract, List.take_of_length_le]; rw [List.length_drop, bytesOf_len]; exact Nat.le_refl _
theorem pass_at (s : ByteArray) (a n : Nat) (out : List Tok) : passV n (scA s a out) = scA s (a + n) out := by
  unfold passV
  have e1 : (s.extract a s.size).extract n (s.extract a s.size).size = s.extract (a + n) s.size := by
    refine bytesOf_inj ?_
    rw [bytes_at, bytes_at, List.drop_drop, bytes_at]
  have e2 : lcV ((bytesOf (s.extract a s.size)).take n) (lcV ((bytesOf s).take a) (1, 1)) = lcV ((bytesOf s).take (a + n)) (1, 1) := by
    rw [bytes_at]
    unfold lcV
    rw [← List.foldl_append, List.take_add]
  show ((s.extract a s.size).extract n (s.extract a s.size).size, lcV ((bytesOf (s.extract a s.size)).take n) (lcV ((bytesOf s).take a) (1, 1)), out) = _
  rw [e1, e2]
abbrev semiT (f : Int) (x : Int × Int) : Tok := (5, ⟨#[59]⟩, f, x)
theorem put_at (f k : Int) (t : ByteArray) (s : ByteArray) (a n : Nat) (out : List Tok) : putV f k t n (scA s a out) = scA s (a + n) (out ++ [(k, t, f, lcV ((bytesOf s).take a) (1, 1))]) := pass_at s a n _
theorem end_at (f : Int) (s : ByteArray) (a : Nat) (out : List Tok) : endV f (scA s a out) = scA s a (if endsV out = true then out ++ [semiT f (lcV ((bytesOf s).take a) (1, 1))] else out) := by
  unfold endV
  show (if endsV out = true then _ else _) = _
  split
  · exact put_at f 5 ⟨#[59]⟩ s a 0 out
  · rfl
theorem step_at {f : Int} {s : ByteArray} {a : Nat} (out : List Tok) : stepS f (scA s a out) = match gapL ((bytesOf s).drop a) with
    | none => (5, scA s a out)
    | some (n, nl) => if n = 0 then (match tokL ((bytesOf s).drop a) with
        | none => (5, scA s a out)
        | some (k, t, m) => (0, scA s (a + m) (out ++ [(k, strOf t, f, lcV ((bytesOf s).take a) (1, 1))])))
      else (0, scA s (a + n) (if nl = true ∧ endsV out = true then out ++ [semiT f (lcV ((bytesOf s).take a) (1, 1))] else out)) := by
  have eb : bytesOf (scA s a out).1 = (bytesOf s).drop a := bytes_at s a
  cases hg : gapL ((bytesOf s).drop a) with
  | none =>
    have hgs : gapS f (scA s a out) = ((false, 5), scA s a out) := by unfold gapS; rw [eb, hg]
    unfold stepS
    rw [hgs, if_pos (.inr (show (5 : Int) ≠ 0 by decide))]
  | some x =>
    obtain ⟨n, nl⟩ := x
    dsimp only
    by_cases hn : n = 0
    · have hgs : gapS f (scA s a out) = ((false, 0), scA s a out) := by unfold gapS; rw [eb, hg]; dsimp only; rw [if_pos hn]
      unfold stepS
      rw [hgs, if_neg (by simp), if_pos hn]
      unfold tokS
      rw [eb]
      cases ht : tokL ((bytesOf s).drop a) with
      | none => rfl
      | some y =>
        obtain ⟨k, t, m⟩ := y
        dsimp only
        rw [put_at]
    · have hgs : gapS f (scA s a out) = ((true, 0), passV n (if nl = true then endV f (scA s a out) else scA s a out)) := by unfold gapS; rw [eb, hg]; dsimp only; rw [if_neg hn]
      unfold stepS
      rw [hgs, if_pos (.inl rfl), if_neg hn]
      dsimp only
      cases nl with
      | false => rw [if_neg (by simp), pass_at, if_neg (by simp)]
      | true =>
        rw [if_pos rfl, end_at, pass_at]
        congr 3
        simp
theorem tokL_ok {l : List Int} {k : Int} {t : List Int} {n : Nat} (h : tokL l = some (k, t, n)) (x : Int × Int × Int) : okT (k, strOf t, x) := by
  unfold okT
  unfold tokL at h
  split at h
  · cases h
    constructor
    · intro h6
      dsimp only at h6 ⊢
      by_cases hk : anyEq kwords (strOf (l.take (runV partB l))) = true
      · exact hk
      · rw [if_neg hk] at h6; cases h6
    · intro h5
      dsimp only at h5
      split at h5 <;> cases h5
  · split at h
    · generalize (if l.getD 0 0 = 48 then 1 else runV digB l) = m at h
      split at h
      · cases h
      · cases h; exact ⟨fun h => absurd (show (3 : Int) = 6 from h) (by decide), fun h => absurd (show (3 : Int) = 5 from h) (by decide)⟩
    · split at h
      · split at h
        · cases h
        · cases h; exact ⟨fun h => absurd (show (4 : Int) = 6 from h) (by decide), fun h => absurd (show (4 : Int) = 5 from h) (by decide)⟩
      · split at h
        · rename_i h2; cases h; exact ⟨fun h => absurd (show (5 : Int) = 6 from h) (by decide), fun _ => h2.2⟩
        · split at h
          · rename_i h2; cases h; exact ⟨fun h => absurd (show (5 : Int) = 6 from h) (by decide), fun _ => h2⟩
          · cases h
theorem semi_ok (f : Int) (x : Int × Int) : okT (semiT f x) := ⟨fun h => absurd (show (5 : Int) = 6 from h) (by decide), fun _ => show anyEq opers ⟨#[59]⟩ = true by decide +kernel⟩
theorem gapL_zero {l : List Int} {nl : Bool} (h : gapL l = some (0, nl)) : nl = false := by
  unfold gapL at h
  split at h
  · cases h
  · split at h
    · cases h
    · split at h
      · injection h with h; injection h with _ h; exact h.symm
      · split at h
        · split at h
          · cases h
          · cases h
        · cases h; rfl
theorem last_ends (out : List Tok) : endsT (lastV out).1 (lastV out).2.1 = endsV out := by
  unfold lastV endsV
  cases out.getLast? with
  | none => rfl
  | some t => rfl
theorem last_ok {out : List Tok} (h : ∀ t ∈ out, okT t) : okT (lastV out) := by
  unfold lastV
  cases hl : out.getLast? with
  | none => exact ⟨fun h => absurd (show (0 : Int) = 6 from h) (by decide), fun h => absurd (show (0 : Int) = 5 from h) (by decide)⟩
  | some t => exact h t (List.mem_of_getLast? hl)
theorem last_app (out : List Tok) (t : Tok) : lastV (out ++ [t]) = t := by unfold lastV; rw [List.getLast?_concat]; rfl
theorem gokRk : GOK Try.prog (gam gRk) := gam_ok ⟨rgap_ok, place_ok, rends_ok, rtok_ok, trivial⟩
theorem scanS_succ {f : Int} {k : Nat} {s : Sc} (h : s.1.size ≠ 0) : scanS f (k + 1) s = if (stepS f s).1 ≠ 0 then stepS f s else scanS f k (stepS f s).2 := by
  show (if s.1.size = 0 then (0, s) else _) = _
  rw [if_neg h]
theorem scanS_end {f : Int} {k : Nat} {s : Sc} (h : s.1.size = 0) : scanS f k s = (0, s) := by
  cases k with
  | zero => rfl
  | succ k => show (if s.1.size = 0 then (0, s) else _) = _; rw [if_pos h]
theorem scA_zero (s : ByteArray) : scA s 0 [] = s0 s := by
  show (s.extract 0 s.size, lcV ((bytesOf s).take 0) (1, 1), []) = _
  rw [extract_all]; rfl
theorem rscan_loop (f : Int) (s : ByteArray) (Q : Exit → SS → Prop) (hs : s.size ≤ 65536)
    (h1 : (scanS f s.size (s0 s)).1 ≠ 0 → Q .ret (⟨97, [(4, .p (.c .nils)), (5, .p (ti (scanS f s.size (s0 s)).1)), (6, .p (.c (.ptr 0 0)))], [.cells 26 [.int .i64 f, .int .i64 (scanS f s.size (s0 s)).2.2.1.1, .int .i64 (scanS f s.size (s0 s)).2.2.1.2]]⟩ : SS))
    (h2 : (scanS f s.size (s0 s)).1 = 0 → (scanS f s.size (s0 s)).2.2.2.length ≤ 65536 → (∀ t ∈ (scanS f s.size (s0 s)).2.2.2, okT t) → (scanS f s.size (s0 s)).2.2.1 = lcV (bytesOf s) (1, 1) → Q (.exit 0) (stRe f s (scanS f s.size (s0 s)).2.2.2)) : W 0 Try.prog (.loop (lp Try.f10 0)) (stR f s 0 []) Q := by
  have hlen : (bytesOf s).length = s.size := bytesOf_len s
  refine W_loopE (fun x : Nat × Nat × List Tok => stR f s x.2.1 x.2.2) (fun x => scanS f x.1 (scA s x.2.1 x.2.2) = scanS f s.size (s0 s) ∧ x.2.1 ≤ s.size ∧ s.size - x.2.1 ≤ x.1 ∧ x.2.2.length ≤ x.2.1 ∧ ∀ t ∈ x.2.2, okT t) (fun x => s.size - x.2.1) [0, 1, 6, 7, 8, 9] [0, 1, 6, 7, 8] [4, 5, 6] ?_ (s.size, 0, []) ⟨by rw [scA_zero], Nat.zero_le _, Nat.sub_le _ _, Nat.zero_le _, by simp⟩
  rintro ⟨k, a, out⟩ ⟨e, ha, hk, ho, hok⟩
  dsimp only at e ha hk ho hok ⊢
  refine sx_ok (Λ := noLam) gokRk _ 0 _ _ noLam_ok ?_
  rw [vc_rscanL]
  intro _
  have esz : (scA s a out).1.size = s.size - a := by show (s.extract a s.size).size = _; rw [ByteArray.size_extract]; omega
  rw [Int.toNat_natCast, vw_all]
  have h0 : (0 : Int) ≤ (a : Int) := by omega
  refine cond_of (fun hc => ?_) (fun hc => ?_)
  · have hc : a < s.size := by have := of_decide_eq_true hc; omega
    obtain ⟨k', rfl⟩ : ∃ k', k = k' + 1 := ⟨k - 1, by omega⟩
    rw [scanS_succ (by omega)] at e
    have hst := step_at (f := f) (s := s) (a := a) out
    have hD : 1 ≤ ((bytesOf s).drop a).length := by rw [List.length_drop]; omega
    have pre : atPre s (a : Int) := ⟨h0, by rw [Int.toNat_natCast]; exact hc, by omega⟩
    have pp : (0 : Int) ≤ (a : Int) ∧ a ≤ s.size ∧ s.size ≤ 1000000 := ⟨h0, ha, by omega⟩
    generalize hlc : lcV ((bytesOf s).take a) (1, 1) = lc at hst ⊢
    have bad : stepS f (scA s a out) = (5, scA s a out) → Q .ret (⟨97, [(4, .p (.c .nils)), (5, .p (.c (.int .i64 5))), (6, .p (.c (.ptr 0 0)))], [.cells 26 [.int .i64 f, .int .i64 lc.1, .int .i64 lc.2]]⟩ : SS) := by
      intro eq
      rw [eq, if_pos (show (5 : Int) ≠ 0 by decide)] at e
      rw [← e] at h1
      rw [← hlc]
      exact h1 (by show (5 : Int) ≠ 0; omega)
    have go : ∀ (n : Nat) (o' : List Tok) (x : Int), x = (a : Int) + (n : Int) → 1 ≤ n → a + n ≤ s.size → o'.length ≤ a + n → (∀ t ∈ o', okT t) → stepS f (scA s a out) = (0, scA s (a + n) o') →
        ∃ y : Nat × Nat × List Tok, ({ nt := 97, fr := [(0, .p (.c (.int .i64 f))), (1, .p (.c (.str s))), (6, .p (.c (.ptr 0 0))), (7, .p (.c (.view tTok 1 0 o'.length))), (8, .p (.c (.ptr 2 0))), (9, .p (.c (.int .i64 x)))], hp := [.cells 26 [.int .i64 0, .int .i64 0, .int .i64 0], .row 36 tTok o', .cells 36 [.int .i64 (lastV o').1, .str (lastV o').2.1, .int .i64 (lastV o').2.2.1, .int .i64 (lastV o').2.2.2.1, .int .i64 (lastV o').2.2.2.2]] } : SS) = stR f s y.2.1 y.2.2 ∧ (scanS f y.1 (scA s y.2.1 y.2.2) = scanS f s.size (s0 s) ∧ y.2.1 ≤ s.size ∧ s.size - y.2.1 ≤ y.1 ∧ y.2.2.length ≤ y.2.1 ∧ ∀ t ∈ y.2.2, okT t) ∧ s.size - y.2.1 < s.size - a := by
      intro n o' x hx hn1 hn2 ho' hok' eq
      subst hx
      rw [eq, if_neg (by simp)] at e
      exact ⟨(k', a + n, o'), rfl, ⟨e, hn2, by show s.size - (a + n) ≤ k'; omega, ho', hok'⟩, by show s.size - (a + n) < s.size - a; omega⟩
    unfold rgapV
    refine ⟨pre, ?_⟩
    cases hg : gapL ((bytesOf s).drop a) with
    | none =>
      rw [hg] at hst
      refine cond_of (fun _ => ⟨pp, bad hst⟩) (fun g => absurd (show (-1 : Int) < 0 by decide) (of_decide_eq_false g))
    | some y =>
      obtain ⟨n, nl⟩ := y
      rw [hg] at hst
      dsimp only at hst ⊢
      have hn := gapL_n hD hg
      rw [List.length_drop, hlen] at hn
      refine cond_of (fun g => absurd (of_decide_eq_true g) (by omega)) (fun _ => ?_)
      cases nl with
      | true =>
        have hn0 : n ≠ 0 := by rintro rfl; have := gapL_zero hg; cases this
        rw [if_neg hn0] at hst
        have hgt : decide ((a : Int) + (n : Int) > (a : Int)) = true := decide_eq_true (by omega)
        rw [hgt, last_ends]
        refine ⟨last_ok hok, ?_⟩
        rw [Bool.true_and]
        cases he : endsV out with
        | true =>
          rw [if_pos ⟨rfl, he⟩] at hst
          refine ⟨pp, by simp, by omega, by rw [List.length_append]; simp only [List.length_cons, List.length_nil]; omega, ?_⟩
          have := go n (out ++ [semiT f lc]) _ rfl (by omega) (by omega) (by rw [List.length_append]; simp only [List.length_cons, List.length_nil]; omega) (fun t ht => by
            rcases List.mem_append.1 ht with h | h
            · exact hok t h
            · rw [List.mem_singleton.1 h]; exact semi_ok f lc) hst
          rw [last_app] at this
          exact this
        | false =>
          rw [if_neg (by rw [he]; simp)] at hst
          exact go n out _ rfl (by omega) (by omega) (by omega) hok hst
      | false =>
        refine cond_of (fun g => (by cases g)) (fun _ => ?_)
        refine cond_of (fun g => ?_) (fun g => ?_)
        · have hn0 : n ≠ 0 := by have := of_decide_eq_true g; omega
          rw [if_neg hn0, if_neg (by simp)] at hst
          exact go n out _ rfl (by omega) (by omega) (by omega) hok hst
        · have hn0 : n = 0 := by have := of_decide_eq_false g; omega
          rw [if_pos hn0] at hst
          refine ⟨pre, fun ht => ?_, fun kk t m ht => ?_⟩
          · rw [ht] at hst
            exact fun _ _ => ⟨pp, bad hst⟩
          · rw [ht] at hst
            dsimp only at hst
            have hm := tokL_n hD ht
            rw [List.length_drop, hlen] at hm
            refine ⟨pp, by simp, by omega, by rw [List.length_append]; simp only [List.length_cons, List.length_nil]; omega, ?_⟩
            have := go m (out ++ [(kk, strOf t, f, lc)]) _ rfl (by omega) (by omega) (by rw [List.length_append]; simp only [List.length_cons, List.length_nil]; omega) (fun x hx => by
              rcases List.mem_append.1 hx with h | h
              · exact hok x h
              · rw [List.mem_singleton.1 h]; exact tokL_ok ht _) hst
            rw [last_app] at this
            exact this
  · have hc : a = s.size := by have := of_decide_eq_false hc; omega
    rw [scanS_end (by omega)] at e
    rw [← e] at h2
    have := h2 rfl (by show out.length ≤ 65536; omega) hok (by show lcV ((bytesOf s).take a) (1, 1) = _; rw [List.take_of_length_le (by omega)])
    exact this
theorem rtokens_ok : ∀ args h Q, rtokens_t args h Q → FSpec Try.prog 10 args h Q := trH_ok fun ((f, s, _) : Int × ByteArray × Unit) _ Q ⟨hs, h⟩ => by
  dsimp only at hs h
  refine spec_drop (spec_frzL 0 [] (spec_nilT tTok ?_))
  refine spec_body (Λ := lam [(0, rscan_l)]) gokRk Try.func10 rfl (lokl ⟨lam_ok (fun x Q hx ⟨h1, h2⟩ => rscan_loop x.1 x.2 Q hx h1 h2), trivial⟩) ?_
  show body Try.prog (gam gRk) (lam [(0, rscan_l)]) Try.f10 [ti f, .c (.str s)] [] _
  rw [vc_rtokens]
  intro hmx
  unfold tokensV at h
  refine cond_of (fun hc => ?_) (fun hc => ?_)
  · have hc : 65536 < s.size := by have := of_decide_eq_true hc; omega
    rw [if_pos hc] at h
    exact .inr ⟨_, rfl, .inl ⟨rfl, h⟩⟩
  · have hc : ¬ 65536 < s.size := by have := of_decide_eq_false hc; omega
    rw [if_neg hc] at h
    refine ⟨(f, s), rfl, by show s.size ≤ 65536; omega, fun he => ?_, fun he ho hok hlc _ => ?_⟩
    · rw [if_pos he] at h
      exact .inr ⟨_, rfl, .inl ⟨rfl, h⟩⟩
    · rw [if_neg (by rw [he]; simp)] at h
      have he : (scanS f s.size (s0 s)).1 = 0 := he
      have ho : (scanS f s.size (s0 s)).2.2.2.length ≤ 65536 := ho
      have hok : ∀ t ∈ (scanS f s.size (s0 s)).2.2.2, okT t := hok
      have hlc : (scanS f s.size (s0 s)).2.2.1 = lcV (bytesOf s) (1, 1) := hlc
      have done : (doneS f (scanS f s.size (s0 s)).2).2.2 = (if endsV (scanS f s.size (s0 s)).2.2.2 = true then (scanS f s.size (s0 s)).2.2.2 ++ [semiT f (lcV (bytesOf s) (1, 1))] else (scanS f s.size (s0 s)).2.2.2) ++ [(1, ⟨#[]⟩, f, lcV (bytesOf s) (1, 1))] := by
        show (endV f (scanS f s.size (s0 s)).2).2.2 ++ [(1, ⟨#[]⟩, f, (endV f (scanS f s.size (s0 s)).2).2.1)] = _
        rw [end_lc, hlc]
        congr 1
        unfold endV
        split
        · show (scanS f s.size (s0 s)).2.2.2 ++ [(5, _, f, (scanS f s.size (s0 s)).2.2.1)] = _
          rw [hlc]
        · rfl
      rw [done] at h
      show ((0 : Int) ≤ (s.size : Int) ∧ _) ∧ okT (lastV (scanS f s.size (s0 s)).2.2.2) ∧ bif endsT (lastV (scanS f s.size (s0 s)).2.2.2).1 (lastV (scanS f s.size (s0 s)).2.2.2).2.1 then _ else _
      rw [last_ends]
      dsimp only
      rw [Int.toNat_natCast, vw_all]
      have etk : (bytesOf s).take s.size = bytesOf s := List.take_of_length_le (by rw [bytesOf_len]; exact Nat.le_refl _)
      rw [etk]
      generalize (scanS f s.size (s0 s)).2.2.2 = out at h ho hok ⊢
      have fin : ∀ X : List Tok, X.length ≤ 65540 → Q (.tup [.c (.row tTok X), ti 0, .agg [.int .i64 0, .int .i64 0, .int .i64 0]]) [] → (norefS (.tup [.c (.row tTok X), ti 0, .agg [.int .i64 0, .int .i64 0, .int .i64 0]]) = true ∧ Q (.tup [.c (.row tTok X), ti 0, .agg [.int .i64 0, .int .i64 0, .int .i64 0]]) []) := fun X _ h => ⟨rfl, h⟩
      refine ⟨⟨by omega, Nat.le_refl _, by omega⟩, last_ok hok, cond_of (fun g => ?_) (fun g => ?_)⟩
      · rw [if_pos g] at h
        refine ⟨by simp, by omega, by rw [List.length_append]; simp only [List.length_cons, List.length_nil]; omega, by simp, by omega, by rw [vw_all, List.length_append, List.length_append]; simp only [List.length_cons, List.length_nil]; omega, ?_⟩
        refine .inl (.inr ⟨rfl, _, _, _, _, rfl, rfl, ⟨by show 0 + _ ≤ _; omega, trivial⟩, fun x hx => hx, rfl, ?_⟩)
        rw [vw_all, vw_all]
        exact h
      · rw [if_neg (by rw [g]; simp)] at h
        refine ⟨by simp, by omega, by rw [List.length_append]; simp only [List.length_cons, List.length_nil]; omega, ?_⟩
        refine .inl (.inr ⟨rfl, _, _, _, _, rfl, rfl, ⟨by show 0 + _ ≤ _; omega, trivial⟩, fun x hx => hx, rfl, ?_⟩)
        have e := vw_all (out ++ [(1, ⟨#[]⟩, f, lcV (bytesOf s) (1, 1))])
        rw [← e] at h
        exact h
/-! ### the same tokens -/
theorem same_iff (p : Bool) : ∀ {a b : List Tok}, a.length = b.length → (sameV p a b = true ↔ ∀ i, i < a.length → sameT p (a.getD i zT) (b.getD i zT) = true)
  | [], [], _ => by simp [sameV]
  | x :: a, y :: b, h => by
    have ih := same_iff p (a := a) (b := b) (by simpa using h)
    unfold sameV
    rw [Bool.and_eq_true, ih]
    constructor
    · rintro ⟨h1, h2⟩ i hi
      cases i with
      | zero => exact h1
      | succ i => exact h2 i (by simpa using hi)
    · intro h'
      exact ⟨h' 0 (by simp), fun i hi => h' (i + 1) (by simpa using hi)⟩
  | [], _ :: _, h => by simp at h
  | _ :: _, [], h => by simp at h
theorem same_step (a b : List Tok) (p : Bool) (Q : Exit → SS → Prop) (hl : a.length = b.length ∧ a.length ≤ maxI) (h1 : sameV p a b = false → Q .ret (⟨59, [(6, .p (tb false))], []⟩ : SS)) (h2 : sameV p a b = true → Q (.exit 0) (⟨59, [], []⟩ : SS)) : W 0 Try.prog (.loop (lp Try.f11 0)) (stSm a b p 0) Q := by
  refine W_all (stSm a b p) a.length (fun i => sameT p (a.getD i zT) (b.getD i zT) = true) [0, 1, 2, 7] [] [6] (fun i hi ho K hK => ?_)
  refine sx_ok (Λ := noLam) gok0 _ 0 _ _ noLam_ok ?_
  rw [vc_sameL]
  intro hm
  simp only [maxI] at hm
  rw [Int.toNat_natCast]
  refine cond_of (fun hc => ?_) (fun hc => ?_)
  · have hc : i < a.length := by have := of_decide_eq_true hc; omega
    have hcb : i < b.length := by omega
    have ew : IntKind.i64.wrap ((i : Int) + 1) = ((i + 1 : Nat) : Int) := w64n (n := i + 1) (by omega)
    rw [ew]
    have p0 : (0 : Int) ≤ (i : Int) := by omega
    have pa : (i : Int) < (a.length : Int) := by omega
    have pb : (i : Int) < (b.length : Int) := by omega
    refine ⟨p0, pa, hc, p0, pb, hcb, fun _ => ⟨p0, pa, trivial⟩, fun _ => ⟨hc, trivial⟩, fun _ => ⟨p0, pb, trivial⟩, fun _ => ⟨hcb, trivial⟩, fun _ => ⟨p0, pa, trivial⟩, fun _ => ⟨hc, trivial⟩, fun _ => ⟨p0, pb, trivial⟩, fun _ => ⟨hcb, trivial⟩, ?_⟩
    have ed : (tTok.dft : Tok) = zT := rfl
    rw [ed]
    have key : ∀ x y : Tok, (x.1 != y.1 || !strEq x.2.1 y.2.1 || p && !(x.2.2.1 == y.2.2.1 && (x.2.2.2.1 == y.2.2.2.1 && (x.2.2.2.2 == y.2.2.2.2 && true)))) = !sameT p x y := by
      rintro ⟨k, t, f, l, c⟩ ⟨k', t', f', l', c'⟩
      unfold sameT
      dsimp only
      have e1 : (k != k') = !decide (k = k') := by
        by_cases hk : k = k'
        · subst hk; simp
        · rw [decide_eq_false hk]; simpa using hk
      have e2 : (f == f' && (l == l' && (c == c' && true))) = decide ((f, l, c) = (f', l', c')) := by
        rw [Bool.eq_iff_iff]
        simp
      rw [e1, e2, Bool.not_and, Bool.not_and, Bool.not_or, Bool.not_not, Bool.or_assoc]
    rw [key]
    refine cond_of (fun g => ?_) (fun g => ?_)
    · refine h1 ?_
      cases hq : sameV p a b with
      | false => rfl
      | true => rw [(same_iff p hl.1).1 hq i hc] at g; cases g
    · exact hK hc (by simpa using g)
  · have hc : ¬ i < a.length := by have := of_decide_eq_false hc; omega
    exact h2 ((same_iff p hl.1).2 fun j hj => ho j (by omega))
theorem same_len (p : Bool) : ∀ {a b : List Tok}, sameV p a b = true → a.length = b.length
  | [], [], _ => rfl
  | x :: a, y :: b, h => by
    unfold sameV at h
    rw [Bool.and_eq_true] at h
    rw [List.length_cons, List.length_cons, same_len p h.2]
  | [], _ :: _, h => by simp [sameV] at h
  | _ :: _, [], h => by simp [sameV] at h
theorem same_ok : ∀ args h Q, same_t args h Q → FSpec Try.prog 11 args h Q := trH_ok fun ((a, b, p, _) : List Tok × List Tok × Bool × Unit) _ Q h => by
  dsimp only at h
  refine spec_body (Λ := lam [(0, same_l)]) gok0 Try.func11 rfl (lokl ⟨lam_ok (fun x Q hx ⟨h1, h2⟩ => same_step x.1 x.2.1 x.2.2 Q hx h1 h2), trivial⟩) ?_
  show body Try.prog (gam []) (lam [(0, same_l)]) Try.f11 [.c (.row tTok a), .c (.row tTok b), tb p] [] _
  rw [vc_same]
  intro hm _
  refine cond_of (fun g => ?_) (fun g => ⟨(a, b, p), rfl, ⟨?_, hm⟩, fun e => ?_, fun e => ?_⟩)
  · have g : (a.length : Int) ≠ (b.length : Int) := by simpa using g
    have : sameV p a b = false := by
      cases hq : sameV p a b with
      | false => rfl
      | true => have := same_len p hq; omega
    rw [this] at h; exact h
  · have g : (a.length : Int) = (b.length : Int) := by simpa using g
    show a.length = b.length
    omega
  · have e : sameV p a b = false := e
    rw [e] at h; exact h
  · have e : sameV p a b = true := e
    rw [e] at h; exact h
end Go.Proofs.Ytodmofkeglfcaaa.Ch
