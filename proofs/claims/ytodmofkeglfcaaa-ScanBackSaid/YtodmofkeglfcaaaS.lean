/- Chapter 02 (scan): what is scanned, but for places, in plain Lean. No condition. -/
import Derived.Test.YtodmofkeglfcaaaQ
namespace Go.Proofs.Ytodmofkeglfcaaa.Ch
open Go Go.Proofs Go.Proofs.Ytodmofkeglfcaaa.Sx
set_option linter.unusedVariables false
set_option linter.unusedSimpArgs false

abbrev KT := Int × ByteArray
def kt (t : Tok) : KT := (t.1, t.2.1)
def endsK (out : List KT) : Bool := match out.getLast? with | none => false | some t => endsT t.1 t.2
def semiK (nl : Bool) (out : List KT) : List KT := if nl = true ∧ endsK out = true then out ++ [(5, ⟨#[59]⟩)] else out
/-- From these bytes, with these tokens behind, the scanner comes to those. -/
inductive Scan : List Int → List KT → List Int → List KT → Prop where
  | refl (l : List Int) (out : List KT) : Scan l out l out
  | gap {l : List Int} {out : List KT} {l' : List Int} {out' : List KT} (n : Nat) (nl : Bool) : gapL l = some (n, nl) → n ≠ 0 → Scan (l.drop n) (semiK nl out) l' out' → Scan l out l' out'
  | tok {l : List Int} {out : List KT} {l' : List Int} {out' : List KT} (nl : Bool) (k : Int) (t : List Int) (m : Nat) : l ≠ [] → gapL l = some (0, nl) → tokL l = some (k, t, m) → Scan (l.drop m) (out ++ [(k, strOf t)]) l' out' → Scan l out l' out'
theorem Scan.trans {l out l1 out1 l2 out2} (h : Scan l out l1 out1) (h' : Scan l1 out1 l2 out2) : Scan l out l2 out2 := by
  induction h with
  | refl => exact h'
  | gap n nl h1 h2 _ ih => exact .gap n nl h1 h2 (ih h')
  | tok nl k t m h0 h1 h2 _ ih => exact .tok nl k t m h0 h1 h2 (ih h')
theorem len_pos {l : List Int} (h : l ≠ []) : 1 ≤ l.length := List.length_pos_iff.2 h
theorem gap_ne {l : List Int} {n : Nat} {nl : Bool} (h : gapL l = some (n, nl)) (hn : n ≠ 0) : l ≠ [] := by
  rintro rfl
  have e : gapL [] = some (0, false) := rfl
  rw [e] at h
  injection h with h
  injection h with h1 h2
  exact hn h1.symm
theorem Scan.suffix {l out l' out'} (h : Scan l out l' out') : ∃ x, l = x ++ l' ∧ (x = [] → out = out') := by
  induction h with
  | refl => exact ⟨[], rfl, fun _ => rfl⟩
  | @gap l out l' out' n nl h1 h2 _ ih =>
    obtain ⟨x, hx, _⟩ := ih
    refine ⟨l.take n ++ x, by rw [List.append_assoc, ← hx, List.take_append_drop], fun e => ?_⟩
    have hl := gap_ne h1 h2
    have hn := gapL_n (len_pos hl) h1
    have := congrArg List.length e
    simp only [List.length_append, List.length_take, List.length_nil] at this
    omega
  | @tok l out l' out' nl k t m h0 h1 h2 _ ih =>
    obtain ⟨x, hx, _⟩ := ih
    refine ⟨l.take m ++ x, by rw [List.append_assoc, ← hx, List.take_append_drop], fun e => ?_⟩
    have hm := tokL_n (len_pos h0) h2
    have := congrArg List.length e
    simp only [List.length_append, List.length_take, List.length_nil] at this
    omega
theorem ends_kt (out : List Tok) : endsK (out.map kt) = endsV out := by
  unfold endsK endsV
  rw [List.getLast?_map]
  cases out.getLast? with
  | none => rfl
  | some t => rfl
theorem semi_kt (nl : Bool) (out : List Tok) (f : Int) (x : Int × Int) : (if nl = true ∧ endsV out = true then out ++ [semiT f x] else out).map kt = semiK nl (out.map kt) := by
  unfold semiK
  rw [ends_kt]
  split
  · rw [List.map_append]; rfl
  · rfl
/-- The scanner goes that way. -/
theorem scan_fwd {f : Int} {s : ByteArray} {l out l' out'} (h : Scan l out l' out') : ∀ (a : Nat) (o : List Tok), (bytesOf s).drop a = l → a ≤ s.size → o.map kt = out → ∃ a' o', (bytesOf s).drop a' = l' ∧ a' ≤ s.size ∧ o'.map kt = out' ∧ ∀ k, s.size - a ≤ k → ∃ k', s.size - a' ≤ k' ∧ scanS f k (scA s a o) = scanS f k' (scA s a' o') := by
  have hlen : (bytesOf s).length = s.size := bytesOf_len s
  have esz : ∀ a o, a ≤ s.size → (scA s a o).1.size = s.size - a := fun a o _ => by show (s.extract a s.size).size = _; rw [ByteArray.size_extract]; omega
  induction h with
  | refl => intro a o h1 h2 h3; exact ⟨a, o, h1, h2, h3, fun k hk => ⟨k, hk, rfl⟩⟩
  | @gap l out l' out' n nl h1 h2 _ ih =>
    intro a o e ha ho
    have hl := gap_ne h1 h2
    have hn := gapL_n (len_pos hl) h1
    rw [← e, List.length_drop, hlen] at hn
    have hlt : a < s.size := by
      rcases Nat.lt_or_ge a s.size with h | h
      · exact h
      · exact absurd (List.drop_eq_nil_of_le (by omega)) (by rw [e]; exact hl)
    have hst := step_at (f := f) (s := s) (a := a) o
    rw [e, h1] at hst
    dsimp only at hst
    rw [if_neg h2] at hst
    obtain ⟨a', o', q1, q2, q3, q4⟩ := ih (a + n) (if nl = true ∧ endsV o = true then o ++ [semiT f (lcV ((bytesOf s).take a) (1, 1))] else o) (by rw [← List.drop_drop, e]) (by omega) (by rw [semi_kt, ho])
    refine ⟨a', o', q1, q2, q3, fun k hk => ?_⟩
    obtain ⟨k0, rfl⟩ : ∃ k0, k = k0 + 1 := ⟨k - 1, by omega⟩
    rw [scanS_succ (by rw [esz a o ha]; omega), hst, if_neg (by simp)]
    exact q4 k0 (by omega)
  | @tok l out l' out' nl k t m h0 h1 h2 _ ih =>
    intro a o e ha ho
    have hm := tokL_n (len_pos h0) h2
    rw [← e, List.length_drop, hlen] at hm
    have hlt : a < s.size := by omega
    have hst := step_at (f := f) (s := s) (a := a) o
    rw [e, h1] at hst
    dsimp only at hst
    rw [if_pos rfl, h2] at hst
    dsimp only at hst
    obtain ⟨a', o', q1, q2, q3, q4⟩ := ih (a + m) (o ++ [(k, strOf t, f, lcV ((bytesOf s).take a) (1, 1))]) (by rw [← List.drop_drop, e]) (by omega) (by rw [List.map_append, ho]; rfl)
    refine ⟨a', o', q1, q2, q3, fun k hk => ?_⟩
    obtain ⟨k0, rfl⟩ : ∃ k0, k = k0 + 1 := ⟨k - 1, by omega⟩
    rw [scanS_succ (by rw [esz a o ha]; omega), hst, if_neg (by simp)]
    exact q4 k0 (by omega)
def finK (out : List KT) : List KT := (if endsK out = true then out ++ [(5, ⟨#[59]⟩)] else out) ++ [(1, ⟨#[]⟩)]
theorem tokens_fwd (f : Int) {s : ByteArray} (hs : s.size ≤ 65536) {out : List KT} (h : Scan (bytesOf s) [] [] out) : ∃ l, tokensV f s = (l, (0, 0, 0, 0)) ∧ l.map kt = finK out := by
  have hlen : (bytesOf s).length = s.size := bytesOf_len s
  obtain ⟨a, o, h1, h2, h3, h4⟩ := scan_fwd (f := f) h 0 [] rfl (Nat.zero_le _) rfl
  obtain ⟨k', _, e⟩ := h4 s.size (Nat.sub_le _ _)
  have ha : a = s.size := by
    have := congrArg List.length h1
    rw [List.length_drop, hlen] at this
    simp only [List.length_nil] at this
    omega
  subst ha
  rw [scA_zero, scanS_end (s := scA s s.size o) (by show (s.extract s.size s.size).size = 0; rw [ByteArray.size_extract]; omega)] at e
  unfold tokensV
  rw [if_neg (by omega), e, if_neg (by simp)]
  refine ⟨_, rfl, ?_⟩
  have ed : (doneS f (scA s s.size o)).2.2 = (if endsV o = true then o ++ [semiT f (lcV ((bytesOf s).take s.size) (1, 1))] else o) ++ [(1, ⟨#[]⟩, f, lcV ((bytesOf s).take s.size) (1, 1))] := by
    unfold doneS
    rw [end_at, put_at]
  show (doneS f (scA s s.size o)).2.2.map kt = _
  rw [ed, List.map_append]
  unfold finK
  rw [← h3, ends_kt]
  congr 1
  split
  · rw [List.map_append]; rfl
  · rfl
theorem same_kt : ∀ {a b : List Tok}, sameV false a b = true ↔ a.map kt = b.map kt
  | [], [] => by simp [sameV]
  | [], _ :: _ => by simp [sameV]
  | _ :: _, [] => by simp [sameV]
  | x :: a, y :: b => by
    unfold sameV
    rw [Bool.and_eq_true, same_kt, List.map_cons, List.map_cons, List.cons.injEq]
    have : sameT false x y = true ↔ kt x = kt y := by
      unfold sameT kt
      rw [Bool.not_false, Bool.true_or, Bool.and_true, Bool.and_eq_true, decide_eq_true_eq, strEq_iff, Prod.mk.injEq]
    rw [this]
/-! ### what follows a token -/
theorem run_app {p : Int → Bool} : ∀ {x q h : List Int} {m : Nat}, runV p (x ++ q) = m → m ≤ x.length → (m < x.length ∨ p (h.getD 0 0) = false ∨ h = []) → runV p (x ++ h) = m
  | [], q, h, m, e, hm, hc => by
    simp only [List.length_nil] at hm hc
    obtain rfl : m = 0 := by omega
    rcases hc with hc | hc | rfl
    · omega
    · cases h with
      | nil => rfl
      | cons c h =>
        have hc : p c = false := hc
        show (List.takeWhile p (c :: h)).length = 0
        rw [List.takeWhile_cons, hc]; rfl
    · rfl
  | b :: x, q, h, m, e, hm, hc => by
    have e0 : runV p (b :: (x ++ q)) = m := e
    unfold runV at e0
    rw [List.takeWhile_cons] at e0
    show runV p (b :: (x ++ h)) = m
    unfold runV
    rw [List.takeWhile_cons]
    by_cases hb : p b = true
    · rw [if_pos hb] at e0 ⊢
      rw [List.length_cons] at e0 hm hc ⊢
      obtain ⟨m', rfl⟩ : ∃ m', m = m' + 1 := ⟨m - 1, by omega⟩
      have := run_app (p := p) (x := x) (q := q) (h := h) (m := m') (by unfold runV; omega) (by omega) (by rcases hc with hc | hc; exact .inl (by omega); exact .inr hc)
      unfold runV at this
      omega
    · rw [if_neg hb] at e0 ⊢
      exact e0
theorem closeL_app : ∀ {y z z' : List Int} {k : Nat}, closeL (y ++ z) = some k → k + 2 ≤ y.length → closeL (y ++ z') = some k
  | [], z, z', k, h, hk => by simp at hk
  | [a], z, z', k, h, hk => by simp at hk
  | a :: b :: y, z, z', k, h, hk => by
    show closeL (a :: b :: (y ++ z')) = some k
    have h : closeL (a :: b :: (y ++ z)) = some k := h
    rw [closeL_two] at h ⊢
    split
    · rename_i hc; rw [if_pos hc] at h; exact h
    · rename_i hc
      rw [if_neg hc] at h
      cases hr : closeL (b :: (y ++ z)) with
      | none => rw [hr] at h; simp at h
      | some j =>
        rw [hr] at h
        simp only [Option.map_some, Option.some.injEq] at h
        subst h
        have := closeL_app (y := b :: y) (z := z) (z' := z') (k := j) hr (by simp only [List.length_cons] at hk ⊢; omega)
        have this : closeL (b :: (y ++ z')) = some j := this
        rw [this]; rfl
theorem textL_app : ∀ (j : Nat) {y z z' acc : List Int} {n : Nat} {t : List Int} {m : Nat}, y.length ≤ j → textL (y ++ z) acc n = some (t, m) → m ≤ n + y.length → textL (y ++ z') acc n = some (t, m)
  | j, [], z, z', acc, n, t, m, _, h, hm => by
    have := textL_n z.length z acc n (Nat.le_refl _) t m h
    simp only [List.length_nil] at hm
    omega
  | 0, b :: y, z, z', acc, n, t, m, hj, _, _ => by simp at hj
  | j + 1, b :: y, z, z', acc, n, t, m, hj, h, hm => by
    show textL (b :: (y ++ z')) acc n = some (t, m)
    have h : textL (b :: (y ++ z)) acc n = some (t, m) := h
    rw [textL_cons] at h ⊢
    rw [List.length_cons] at hj hm
    split
    · rename_i hc; rw [if_pos hc] at h; exact h
    · rename_i hc
      rw [if_neg hc] at h
      split
      · rename_i hc2; rw [if_pos hc2] at h; exact h
      · rename_i hc2
        rw [if_neg hc2] at h
        split
        · rename_i hc3
          rw [if_pos hc3] at h
          cases y with
          | nil =>
            cases z with
            | nil => cases h
            | cons c z =>
              have h : (if unesV c = 0 then none else textL z (acc ++ [unesV c]) (n + 2)) = some (t, m) := h
              split at h
              · cases h
              · have := textL_n z.length z _ _ (Nat.le_refl _) t m h
                simp only [List.length_nil] at hm
                omega
          | cons c y =>
            have h : (if unesV c = 0 then none else textL (y ++ z) (acc ++ [unesV c]) (n + 2)) = some (t, m) := h
            show (if unesV c = 0 then none else textL (y ++ z') (acc ++ [unesV c]) (n + 2)) = some (t, m)
            split
            · rename_i h5; rw [if_pos h5] at h; exact h
            · rename_i h5
              rw [if_neg h5] at h
              rw [List.length_cons] at hj hm
              exact textL_app j (by omega) h (by omega)
        · rename_i hc3
          rw [if_neg hc3] at h
          exact textL_app j (by omega) h (by omega)
end Go.Proofs.Ytodmofkeglfcaaa.Ch
