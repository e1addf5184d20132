/- Chapter 02 (scan): tokens written one behind the other, in plain Lean. No condition. -/
import Derived.Test.YtodmofkeglfcaaaUV

namespace Go.Proofs.Ytodmofkeglfcaaa.Ch
open Go Go.Proofs Go.Proofs.Ytodmofkeglfcaaa.Sx
set_option linter.unusedVariables false
set_option linter.unusedSimpArgs false

theorem qB_ge {b c : Int} (h : c ∈ qB b) : 32 ≤ c := by
  unfold qB at h
  split at h
  · simp only [List.mem_cons, List.not_mem_nil, or_false] at h; omega
  · split at h
    · simp only [List.mem_cons, List.not_mem_nil, or_false] at h; omega
    · split at h
      · simp only [List.mem_cons, List.not_mem_nil, or_false] at h; omega
      · split at h
        · simp only [List.mem_cons, List.not_mem_nil, or_false] at h; omega
        · simp at h
theorem qB_92 : qB 92 = [92, 92] := rfl
theorem rep_two : ∀ m : Nat, List.replicate (m + 2) (92 : Int) = List.replicate m 92 ++ [92, 92]
  | 0 => rfl
  | m + 1 => by
    rw [List.replicate_succ, rep_two m, List.replicate_succ, List.cons_append]
theorem eatB (q : List Int) (o : List KT) : Scan (32 :: q) o q o := .gap 1 false rfl (by decide) (.refl _ _)
theorem flat_no : ∀ (r : List Int) (m : Nat), 1 ≤ m → r ≠ List.replicate m 92 ++ r.flatMap qB
  | [], m, hm, h => by
    have := congrArg List.length h
    simp at this
    omega
  | b :: r, m, hm, h => by
    obtain ⟨m', rfl⟩ : ∃ m', m = m' + 1 := ⟨m - 1, by omega⟩
    rw [List.replicate_succ, List.cons_append] at h
    injection h with h1 h2
    subst h1
    rw [List.flatMap_cons, qB_92] at h2
    refine flat_no r (m' + 2) (by omega) ?_
    rw [rep_two, List.append_assoc]
    exact h2
theorem flat_plain : ∀ {l : List Int}, l.flatMap qB = l → ∀ b ∈ l, 32 ≤ b ∧ b ≠ 34 ∧ b ≠ 92
  | [], _, b, hb => by simp at hb
  | b :: r, h, c, hc => by
    rw [List.flatMap_cons] at h
    generalize hF : r.flatMap qB = F at h
    have key : qB b = [b] ∧ 32 ≤ b ∧ b ≠ 34 ∧ b ≠ 92 := by
      unfold qB at h ⊢
      by_cases h1 : b = 10
      · rw [if_pos h1] at h; injection h with h; omega
      · rw [if_neg h1] at h ⊢
        by_cases h2 : b = 9
        · rw [if_pos h2] at h; injection h with h; omega
        · rw [if_neg h2] at h ⊢
          by_cases h3 : b = 34 ∨ b = 92
          · rw [if_pos h3] at h
            injection h with h4 h5
            subst h4
            rw [← hF] at h5
            exact absurd h5.symm (flat_no r 1 (Nat.le_refl _))
          · rw [if_neg h3] at h ⊢
            by_cases h4 : 32 ≤ b
            · rw [if_pos h4]; exact ⟨rfl, h4, by omega, by omega⟩
            · rw [if_neg h4] at h
              have hb : b ∈ r.flatMap qB := by rw [List.nil_append] at h; rw [hF, h]; simp
              obtain ⟨x, _, hx⟩ := List.mem_flatMap.1 hb
              exact absurd (qB_ge hx) h4
    rw [key.1] at h
    injection h with _ h
    rcases List.mem_cons.1 hc with rfl | hc
    · exact key.2
    · exact flat_plain (hF.trans h) c hc
theorem textL_plain : ∀ (t acc : List Int) (n : Nat), (∀ b ∈ t, 32 ≤ b ∧ b ≠ 34 ∧ b ≠ 92) → textL (t ++ [34]) acc n = some (acc ++ t, n + t.length + 1)
  | [], acc, n, _ => by
    show textL [34] acc n = _
    rw [textL_cons, if_pos rfl, List.append_nil]; rfl
  | b :: t, acc, n, h => by
    obtain ⟨h1, h2, h3⟩ := h b (by simp)
    rw [List.cons_append, textL_cons, if_neg h2, if_neg (by omega), if_neg h3, textL_plain t _ _ (fun c hc => h c (by simp [hc])), List.append_assoc, List.length_cons]
    show some (acc ++ (b :: t), n + 1 + t.length + 1) = some (acc ++ (b :: t), n + (t.length + 1) + 1)
    rw [show n + 1 + t.length + 1 = n + (t.length + 1) + 1 by omega]
theorem gapL_first {l : List Int} (h : l.getD 0 0 ≠ 10 ∧ l.getD 0 0 ≠ 32 ∧ l.getD 0 0 ≠ 9 ∧ l.getD 0 0 ≠ 13 ∧ l.getD 0 0 ≠ 47) : gapL l = some (0, false) := by
  obtain ⟨h1, h2, h3, h4, h5⟩ := h
  unfold gapL
  rw [if_neg h1, if_neg (by omega), if_neg, if_neg]
  · intro e
    cases l with
    | nil => cases e
    | cons b l => rw [List.take_succ_cons] at e; injection e with e; exact h5 e
  · intro e
    cases l with
    | nil => cases e
    | cons b l => rw [List.take_succ_cons] at e; injection e with e; exact h5 e
theorem let_first {b : Int} (h : letB b = true) : b ≠ 10 ∧ b ≠ 32 ∧ b ≠ 9 ∧ b ≠ 13 ∧ b ≠ 47 := by
  refine ⟨?_, ?_, ?_, ?_, ?_⟩ <;> rintro rfl <;> exact absurd h (by decide)
theorem op_self : ∀ w ∈ opers.map bytesOf, gapL w = some (0, false) ∧ tokL w = some (5, w, w.length) ∧ w ≠ [] := by decide +kernel
theorem kw_self : ∀ w ∈ kwords.map bytesOf, gapL w = some (0, false) ∧ tokL w = some (6, w, w.length) ∧ w ≠ [] := by decide +kernel
/-- A token that stands alone, with a blank behind it. -/
theorem tok_alone {x : List Int} {k : Int} {t : List Int} (hx : x ≠ []) (hg : gapL x = some (0, false)) (ht : tokL x = some (k, t, x.length)) (r : List Int) (o : List KT) : Scan (x ++ 32 :: r) o r (o ++ [(k, strOf t)]) := by
  have hg' : gapL (x ++ []) = some (0, false) := by rw [List.append_nil]; exact hg
  have ht' : tokL (x ++ []) = some (k, t, x.length) := by rw [List.append_nil]; exact ht
  refine .tok false k t x.length (by intro e; exact hx (List.append_eq_nil_iff.1 e).1) (nogap_app hx hg' (.inl rfl)) (tok_app hx ht' (Nat.le_refl _) (.inl rfl)) ?_
  rw [List.drop_left]
  exact eatB r _
theorem bytes_ne {t : ByteArray} (h : 0 < t.size) : bytesOf t ≠ [] := by
  intro e
  have := congrArg List.length e
  rw [bytesOf_len] at this
  simp only [List.length_nil] at this
  omega
theorem bk_item {t : ByteArray} {c k : Int} {w : ByteArray} (h : bkI t c = some (k, w)) (r : List Int) (o : List KT) : Scan (bytesOf w ++ 32 :: r) o r (o ++ [(k, t)]) := by
  have est : strOf (bytesOf t) = t := strOf_bytesOf t
  unfold bkI at h
  split at h
  · split at h
    · rename_i hn
      injection h with h; injection h with h1 h2
      subst h1 h2
      unfold nameV at hn
      simp only [Bool.and_eq_true, Bool.not_eq_true', decide_eq_true_eq] at hn
      obtain ⟨h0, h1, h2, h3⟩ := hn
      have hpos := size_pos h0
      have ht : tokL (bytesOf t) = some (2, bytesOf t, (bytesOf t).length) := by
        unfold tokL
        rw [if_pos h1, h2, bytesOf_len, List.take_of_length_le (by rw [bytesOf_len]; exact Nat.le_refl _), est, if_neg (by rw [h3]; simp)]
      have := tok_alone (bytes_ne hpos) (gapL_first (let_first h1)) ht r o
      rw [est] at this
      exact this
    · cases h
  · split at h
    · split at h
      · rename_i ho
        injection h with h; injection h with h1 h2
        subst h1 h2
        obtain ⟨g1, g2, g3⟩ := op_self _ (anyEq_mem.1 ho)
        have := tok_alone g3 g1 g2 r o
        rw [est] at this
        exact this
      · split at h
        · rename_i hk
          injection h with h; injection h with h1 h2
          subst h1 h2
          obtain ⟨g1, g2, g3⟩ := kw_self _ (anyEq_mem.1 hk)
          have := tok_alone g3 g1 g2 r o
          rw [est] at this
          exact this
        · cases h
    · split at h
      · rename_i hq
        injection h with h; injection h with h1 h2
        subst h1 h2
        have hq := (strEq_iff _ _).1 hq
        have eb : bytesOf (⟨#[34]⟩ ++ t ++ ⟨#[34]⟩ : ByteArray) = 34 :: (bytesOf t ++ [34]) := by rw [bytesOf_append, bytesOf_append]; rfl
        have er : bytesOf (strOf (quoteL (bytesOf t))) = quoteL (bytesOf t) := by
          refine bytesOf_strOf fun b hb => ?_
          unfold quoteL at hb
          rcases List.mem_cons.1 hb with rfl | hb
          · omega
          · rcases List.mem_append.1 hb with hb | hb
            · obtain ⟨x, hx, hb⟩ := List.mem_flatMap.1 hb
              have hx := byte_range hx
              refine ⟨by have := qB_ge hb; omega, ?_⟩
              unfold qB at hb
              split at hb
              · simp only [List.mem_cons, List.not_mem_nil, or_false] at hb; omega
              · split at hb
                · simp only [List.mem_cons, List.not_mem_nil, or_false] at hb; omega
                · split at hb
                  · simp only [List.mem_cons, List.not_mem_nil, or_false] at hb; omega
                  · split at hb
                    · simp only [List.mem_cons, List.not_mem_nil, or_false] at hb; omega
                    · simp at hb
            · rw [List.mem_singleton.1 hb]; omega
        have hfl : (bytesOf t).flatMap qB = bytesOf t := by
          have := congrArg bytesOf hq
          rw [er, eb] at this
          unfold quoteL at this
          injection this with _ this
          exact (List.append_left_inj _).1 this
        have hp := flat_plain hfl
        have ew : bytesOf (strOf (quoteL (bytesOf t))) = 34 :: (bytesOf t ++ [34]) := by rw [hq, eb]
        have ht : tokL (34 :: (bytesOf t ++ [34])) = some (4, bytesOf t, (34 :: (bytesOf t ++ [34])).length) := by
          have e1 : letB ((34 :: (bytesOf t ++ [34])).getD 0 0) = false := rfl
          have e2 : digB ((34 :: (bytesOf t ++ [34])).getD 0 0) = false := rfl
          have e3 : textV (34 :: (bytesOf t ++ [34])) = some (bytesOf t, 1 + (bytesOf t).length + 1) := textL_plain (bytesOf t) [] 1 hp
          unfold tokL
          rw [if_neg (by rw [e1]; simp), if_neg (by rw [e2]; simp), if_pos (show (34 :: (bytesOf t ++ [34])).getD 0 0 = 34 from rfl), e3]
          simp only [List.length_cons, List.length_append, List.length_nil]
          rw [show 1 + (bytesOf t).length + 1 = (bytesOf t).length + (0 + 1) + 1 by omega]
        have := tok_alone (x := 34 :: (bytesOf t ++ [34])) (by simp) (gapL_first ⟨show (34 : Int) ≠ 10 by decide, show (34 : Int) ≠ 32 by decide, show (34 : Int) ≠ 9 by decide, show (34 : Int) ≠ 13 by decide, show (34 : Int) ≠ 47 by decide⟩) ht r o
        rw [est] at this
        rw [ew]
        exact this
      · cases h
theorem bk_scan (ts : List ByteArray) (cs : List Int) : ∀ (i : Nat) (r : List Int), Scan (bytesOf (bkF ts cs i).1 ++ r) [] r ((bkF ts cs i).2.map kt)
  | 0, r => .refl _ _
  | i + 1, r => by
    show Scan (bytesOf (bkS (bkF ts cs i) (ts.getD i ⟨#[]⟩) (cs.getD i 0)).1 ++ r) [] r ((bkS (bkF ts cs i) (ts.getD i ⟨#[]⟩) (cs.getD i 0)).2.map kt)
    unfold bkS
    cases hI : bkI (ts.getD i ⟨#[]⟩) (cs.getD i 0) with
    | none => exact bk_scan ts cs i r
    | some y =>
      obtain ⟨k, w⟩ := y
      dsimp only
      have h1 := bk_scan ts cs i (bytesOf w ++ 32 :: r)
      have h2 := bk_item hI r ((bkF ts cs i).2.map kt)
      rw [bytesOf_append, bytesOf_append, List.append_assoc, List.append_assoc, List.map_append]
      exact h1.trans h2
theorem bk_len (ts : List ByteArray) (cs : List Int) : ∀ i, (bkF ts cs i).2.length ≤ i
  | 0 => Nat.le_refl _
  | i + 1 => by
    show (bkS (bkF ts cs i) (ts.getD i ⟨#[]⟩) (cs.getD i 0)).2.length ≤ i + 1
    have := bk_len ts cs i
    unfold bkS
    split
    · omega
    · dsimp only; rw [List.length_append]; simp only [List.length_cons, List.length_nil]; omega
theorem bkI_size {t : ByteArray} {c k : Int} {w : ByteArray} (h : bkI t c = some (k, w)) (ht : t.size ≤ 60) : w.size ≤ 122 := by
  have hw : w = t ∨ w = strOf (quoteL (bytesOf t)) := by
    unfold bkI at h
    split at h
    · split at h
      · injection h with h; injection h with _ h; exact .inl h.symm
      · cases h
    · split at h
      · split at h
        · injection h with h; injection h with _ h; exact .inl h.symm
        · split at h
          · injection h with h; injection h with _ h; exact .inl h.symm
          · cases h
      · split at h
        · injection h with h; injection h with _ h; exact .inr h.symm
        · cases h
  rcases hw with rfl | rfl
  · omega
  · rw [strOf_size]
    unfold quoteL
    have := flat_len (bytesOf t)
    rw [bytesOf_len] at this
    simp only [List.length_cons, List.length_append, List.length_nil]
    omega
theorem bk_size (ts : List ByteArray) (cs : List Int) : ∀ i, (∀ j, j < i → (ts.getD j ⟨#[]⟩).size ≤ 60) → (bkF ts cs i).1.size ≤ 123 * i
  | 0, _ => Nat.le_refl _
  | i + 1, h => by
    have ih := bk_size ts cs i (fun j hj => h j (by omega))
    show (bkS (bkF ts cs i) (ts.getD i ⟨#[]⟩) (cs.getD i 0)).1.size ≤ 123 * (i + 1)
    unfold bkS
    cases hI : bkI (ts.getD i ⟨#[]⟩) (cs.getD i 0) with
    | none => dsimp only; omega
    | some y =>
      obtain ⟨k, w⟩ := y
      have := bkI_size hI (h i (by omega))
      dsimp only
      rw [ByteArray.size_append, ByteArray.size_append]
      show _ + _ + 1 ≤ _
      omega
theorem back_all (ts : List ByteArray) (cs : List Int) (n : Nat) (hn : n ≤ 60) (h : ∀ j, j < n → (ts.getD j ⟨#[]⟩).size ≤ 60) :
    ∃ l, tokensV 0 ((bkF ts cs n).1 ++ ⟨#[105, 102]⟩) = (l, (0, 0, 0, 0)) ∧ sameV false l ((bkF ts cs n).2 ++ [(6, ⟨#[105, 102]⟩, 0, 0, 0), (1, ⟨#[]⟩, 0, 0, 0)]) = true := by
  have hsz := bk_size ts cs n h
  have hs : Scan (bytesOf ((bkF ts cs n).1 ++ ⟨#[105, 102]⟩)) [] [] ((bkF ts cs n).2.map kt ++ [(6, strOf [105, 102])]) := by
    rw [bytesOf_append]
    exact (bk_scan ts cs n [105, 102]).trans (.tok false 6 [105, 102] 2 (by simp) (by decide +kernel) (by decide +kernel) (.refl _ _))
  obtain ⟨l, e1, e2⟩ := tokens_fwd 0 (by rw [ByteArray.size_append]; show _ + 2 ≤ _; omega) hs
  refine ⟨l, e1, same_kt.2 ?_⟩
  rw [e2, List.map_append]
  unfold finK endsK
  rw [List.getLast?_concat, if_neg (by show ¬ endsT 6 (strOf [105, 102]) = true; decide +kernel), List.append_assoc]
  rfl
end Go.Proofs.Ytodmofkeglfcaaa.Ch
