/- Chapter 02 (scan): what holds of all that is scanned; places, in plain Lean. No condition. -/
import Derived.Test.YtodmofkeglfcaaaP
namespace Go.Proofs.Ytodmofkeglfcaaa.Ch
open Go Go.Proofs Go.Proofs.Ytodmofkeglfcaaa.Sx
set_option linter.unusedVariables false
set_option linter.unusedSimpArgs false

theorem scan_ind {f : Int} {s : ByteArray} (J : Nat → List Tok → Prop)
    (hgap : ∀ a out n nl, a < s.size → J a out → gapL ((bytesOf s).drop a) = some (n, nl) → n ≠ 0 → a + n ≤ s.size → J (a + n) (if nl = true ∧ endsV out = true then out ++ [semiT f (lcV ((bytesOf s).take a) (1, 1))] else out))
    (htok : ∀ a out nl k t m, a < s.size → J a out → gapL ((bytesOf s).drop a) = some (0, nl) → tokL ((bytesOf s).drop a) = some (k, t, m) → 1 ≤ m → a + m ≤ s.size → J (a + m) (out ++ [(k, strOf t, f, lcV ((bytesOf s).take a) (1, 1))])) :
    ∀ (k a : Nat) (out : List Tok), J a out → a ≤ s.size → s.size - a ≤ k → ∃ e a' out', scanS f k (scA s a out) = (e, scA s a' out') ∧ J a' out' ∧ a' ≤ s.size ∧ (e = 0 → a' = s.size) ∧ (e ≠ 0 → a' < s.size ∧ e = 5) := by
  have hlen : (bytesOf s).length = s.size := bytesOf_len s
  intro k
  induction k with
  | zero =>
    intro a out hJ ha hk
    exact ⟨0, a, out, rfl, hJ, ha, fun _ => by omega, fun h => absurd rfl h⟩
  | succ k ih =>
    intro a out hJ ha hk
    have esz : (scA s a out).1.size = s.size - a := by show (s.extract a s.size).size = _; rw [ByteArray.size_extract]; omega
    rcases Nat.lt_or_ge a s.size with hlt | hge
    · rw [scanS_succ (by omega)]
      have hst := step_at (f := f) (s := s) (a := a) out
      have hD : 1 ≤ ((bytesOf s).drop a).length := by rw [List.length_drop]; omega
      cases hg : gapL ((bytesOf s).drop a) with
      | none =>
        rw [hg] at hst
        rw [hst, if_pos (show (5 : Int) ≠ 0 by decide)]
        exact ⟨5, a, out, rfl, hJ, ha, fun h => absurd h (by decide), fun _ => ⟨hlt, rfl⟩⟩
      | some x =>
        obtain ⟨n, nl⟩ := x
        rw [hg] at hst
        dsimp only at hst
        have hn := gapL_n hD hg
        rw [List.length_drop, hlen] at hn
        by_cases hn0 : n = 0
        · rw [if_pos hn0] at hst
          subst hn0
          cases ht : tokL ((bytesOf s).drop a) with
          | none =>
            rw [ht] at hst
            rw [hst, if_pos (show (5 : Int) ≠ 0 by decide)]
            exact ⟨5, a, out, rfl, hJ, ha, fun h => absurd h (by decide), fun _ => ⟨hlt, rfl⟩⟩
          | some y =>
            obtain ⟨kk, t, m⟩ := y
            rw [ht] at hst
            dsimp only at hst
            have hm := tokL_n hD ht
            rw [List.length_drop, hlen] at hm
            rw [hst, if_neg (by simp)]
            exact ih (a + m) _ (htok a out nl kk t m hlt hJ hg ht hm.1 (by omega)) (by omega) (by omega)
        · rw [if_neg hn0] at hst
          rw [hst, if_neg (by simp)]
          exact ih (a + n) _ (hgap a out n nl hlt hJ hg hn0 (by omega)) (by omega) (by omega)
    · rw [scanS_end (by omega)]
      exact ⟨0, a, out, rfl, hJ, ha, fun _ => by omega, fun h => absurd rfl h⟩
/-- .. and what comes of it. -/
theorem tokens_ind {f : Int} {s : ByteArray} (hs : s.size ≤ 65536) (J : Nat → List Tok → Prop) (h0 : J 0 [])
    (hgap : ∀ a out n nl, a < s.size → J a out → gapL ((bytesOf s).drop a) = some (n, nl) → n ≠ 0 → a + n ≤ s.size → J (a + n) (if nl = true ∧ endsV out = true then out ++ [semiT f (lcV ((bytesOf s).take a) (1, 1))] else out))
    (htok : ∀ a out nl k t m, a < s.size → J a out → gapL ((bytesOf s).drop a) = some (0, nl) → tokL ((bytesOf s).drop a) = some (k, t, m) → 1 ≤ m → a + m ≤ s.size → J (a + m) (out ++ [(k, strOf t, f, lcV ((bytesOf s).take a) (1, 1))])) :
    (∃ a out, a < s.size ∧ J a out ∧ tokensV f s = ([], (5, f, lcV ((bytesOf s).take a) (1, 1)))) ∨
    (∃ out, J s.size out ∧ tokensV f s = ((if endsV out = true then out ++ [semiT f (lcV (bytesOf s) (1, 1))] else out) ++ [(1, ⟨#[]⟩, f, lcV (bytesOf s) (1, 1))], (0, 0, 0, 0))) := by
  obtain ⟨e, a, out, h1, h2, h3, h4, h5⟩ := scan_ind J hgap htok s.size 0 [] h0 (Nat.zero_le _) (Nat.sub_le _ _)
  rw [scA_zero] at h1
  unfold tokensV
  rw [if_neg (by omega), h1]
  by_cases he : e = 0
  · refine .inr ⟨out, by rw [← h4 he]; exact h2, ?_⟩
    rw [if_neg (by simpa using he), h4 he]
    have et : (bytesOf s).take s.size = bytesOf s := List.take_of_length_le (by rw [bytesOf_len]; exact Nat.le_refl _)
    have ed : (doneS f (scA s s.size out)).2.2 = (if endsV out = true then out ++ [semiT f (lcV (bytesOf s) (1, 1))] else out) ++ [(1, ⟨#[]⟩, f, lcV (bytesOf s) (1, 1))] := by
      unfold doneS
      rw [end_at, put_at, et]
    show ((doneS f (scA s s.size out)).2.2, _) = _
    rw [ed]
  · obtain ⟨h6, h7⟩ := h5 he
    refine .inl ⟨a, out, h6, h2, ?_⟩
    rw [if_pos he, h7]
/-! ### places -/
theorem plLe_refl (p : Int × Int × Int) : plLe p p := .inr ⟨rfl, Int.le_refl _⟩
theorem plLe_trans {p q r : Int × Int × Int} (h1 : plLe p q) (h2 : plLe q r) : plLe p r := by
  unfold plLe at *
  omega
theorem lc_inv (f : Int) (l : List Int) (hl : l.length ≤ 1000000) : ∀ i, i ≤ l.length → (lcV (l.take i) (1, 1)).1 = linesV (l.take i) ∧ 1 ≤ (lcV (l.take i) (1, 1)).2 ∧ (lcV (l.take i) (1, 1)).2 ≤ (i : Int) + 1 ∧ (lcV (l.take i) (1, 1)).1 ≤ (i : Int) + 1 ∧ ∀ j, j ≤ i → plLe (f, lcV (l.take j) (1, 1)) (f, lcV (l.take i) (1, 1)) := by
  intro i
  induction i with
  | zero =>
    intro _
    refine ⟨rfl, show (1 : Int) ≤ 1 by decide, show (1 : Int) ≤ 1 by decide, show (1 : Int) ≤ 1 by decide, fun j hj => ?_⟩
    obtain rfl : j = 0 := by omega
    exact plLe_refl _
  | succ i ih =>
    intro hi
    obtain ⟨h1, h2, h3, h5, h4⟩ := ih (by omega)
    have hi' : i < l.length := by omega
    rw [lcV_succ hi']
    have hc : (l.take (i + 1)).count 10 = (l.take i).count 10 + (if l.getD i 0 = 10 then 1 else 0) := by
      rw [List.take_add_one, List.getElem?_eq_getElem hi', List.count_append, getD_at hi']
      simp [List.count_cons]
    have hcl : (l.take i).count 10 ≤ i := Nat.le_trans List.count_le_length (by rw [List.length_take]; omega)
    unfold linesV at h1 ⊢
    rw [hc]
    unfold lcB
    by_cases hb : l.getD i 0 = 10
    · rw [if_pos hb, if_pos hb]
      have ew : IntKind.i64.wrap ((lcV (l.take i) (1, 1)).1 + 1) = (lcV (l.take i) (1, 1)).1 + 1 := w64 (by omega) (by omega)
      rw [ew]
      refine ⟨by show (lcV (l.take i) (1, 1)).1 + 1 = _; rw [h1]; omega, by show (1 : Int) ≤ 1; omega, by show (1 : Int) ≤ _; omega, by show (lcV (l.take i) (1, 1)).1 + 1 ≤ _; omega, fun j hj => ?_⟩
      by_cases hji : j = i + 1
      · rw [hji, lcV_succ hi']
        unfold lcB
        rw [if_pos hb, ew]
        exact plLe_refl _
      · exact plLe_trans (h4 j (by omega)) (.inl (by show (lcV (l.take i) (1, 1)).1 < (lcV (l.take i) (1, 1)).1 + 1; omega))
    · rw [if_neg hb, if_neg hb]
      have ew : IntKind.i64.wrap ((lcV (l.take i) (1, 1)).2 + 1) = (lcV (l.take i) (1, 1)).2 + 1 := w64 (by omega) (by omega)
      rw [ew]
      refine ⟨by show (lcV (l.take i) (1, 1)).1 = _; rw [h1]; omega, by show 1 ≤ (lcV (l.take i) (1, 1)).2 + 1; omega, by show (lcV (l.take i) (1, 1)).2 + 1 ≤ _; omega, by show (lcV (l.take i) (1, 1)).1 ≤ _; omega, fun j hj => ?_⟩
      by_cases hji : j = i + 1
      · rw [hji, lcV_succ hi']
        unfold lcB
        rw [if_neg hb, ew]
        exact plLe_refl _
      · exact plLe_trans (h4 j (by omega)) (.inr ⟨rfl, by show (lcV (l.take i) (1, 1)).2 ≤ (lcV (l.take i) (1, 1)).2 + 1; omega⟩)
theorem lines_le {l : List Int} {i : Nat} : linesV (l.take i) ≤ linesV l := by
  unfold linesV
  have : (l.take i).count 10 ≤ l.count 10 := List.Sublist.count_le _ (List.take_sublist _ _)
  omega
theorem place_ok1 (f : Int) {s : ByteArray} (hs : s.size ≤ 65536) {a : Nat} (ha : a ≤ s.size) : plOk f s.size (linesV (bytesOf s)) (f, lcV ((bytesOf s).take a) (1, 1)) := by
  have hlen : (bytesOf s).length = s.size := bytesOf_len s
  obtain ⟨h1, h2, h3, _, _⟩ := lc_inv f (bytesOf s) (by omega) a (by omega)
  refine ⟨rfl, ?_, ?_, h2, by show (lcV ((bytesOf s).take a) (1, 1)).2 ≤ (s.size : Int) + 1; omega⟩
  · show 1 ≤ (lcV ((bytesOf s).take a) (1, 1)).1
    rw [h1]; unfold linesV; omega
  · show (lcV ((bytesOf s).take a) (1, 1)).1 ≤ _
    rw [h1]; exact lines_le
/-- The tokens stand at these places. -/
def atPl (f : Int) (s : ByteArray) (out : List Tok) (ps : List Nat) : Prop := out.map (fun t => t.2.2) = ps.map (fun a => (f, lcV ((bytesOf s).take a) (1, 1)))
def plJ (f : Int) (s : ByteArray) (a : Nat) (out : List Tok) : Prop := ∃ ps : List Nat, atPl f s out ps ∧ ps.Pairwise (· ≤ ·) ∧ ∀ x ∈ ps, x ≤ a
theorem plJ_app {f : Int} {s : ByteArray} {a a' : Nat} {out : List Tok} (k : Int) (t : ByteArray) (h : plJ f s a out) (ha : a ≤ a') : plJ f s a' (out ++ [(k, t, f, lcV ((bytesOf s).take a) (1, 1))]) := by
  obtain ⟨ps, h1, h2, h3⟩ := h
  refine ⟨ps ++ [a], ?_, ?_, fun x hx => ?_⟩
  · unfold atPl at h1 ⊢
    rw [List.map_append, List.map_append, h1]; rfl
  · rw [List.pairwise_append]
    exact ⟨h2, List.pairwise_singleton _ _, fun x hx y hy => by rw [List.mem_singleton.1 hy]; exact h3 x hx⟩
  · rcases List.mem_append.1 hx with h | h
    · exact Nat.le_trans (h3 x h) ha
    · rw [List.mem_singleton.1 h]; exact ha
theorem plJ_mono {f : Int} {s : ByteArray} {a a' : Nat} {out : List Tok} (h : plJ f s a out) (ha : a ≤ a') : plJ f s a' out := by
  obtain ⟨ps, h1, h2, h3⟩ := h
  exact ⟨ps, h1, h2, fun x hx => Nat.le_trans (h3 x hx) ha⟩
theorem plJ_all {f : Int} {s : ByteArray} (hs : s.size ≤ 65536) {a : Nat} (ha : a ≤ s.size) {out : List Tok} (h : plJ f s a out) : plAll f s.size (linesV (bytesOf s)) out := by
  obtain ⟨ps, h1, h2, h3⟩ := h
  have hl : out.length = ps.length := by have := congrArg List.length h1; simpa using this
  have hget : ∀ i, i < out.length → (out.getD i zT).2.2 = (f, lcV ((bytesOf s).take (ps.getD i 0)) (1, 1)) := by
    intro i hi
    have e := congrArg (fun l => l[i]?) h1
    simp only [List.getElem?_map] at e
    rw [List.getElem?_eq_getElem hi, List.getElem?_eq_getElem (by omega)] at e
    rw [getD_at hi, getD_at (by omega)]
    simpa using e
  have hle : ∀ i, i < ps.length → ps.getD i 0 ≤ s.size := fun i hi => by rw [getD_at hi]; exact Nat.le_trans (h3 _ (List.getElem_mem hi)) ha
  refine ⟨fun i hi => ?_, fun i h1i hi => ?_⟩
  · rw [hget i hi]; exact place_ok1 f hs (hle i (by omega))
  · rw [hget i hi, hget (i - 1) (by omega)]
    have hlen : (bytesOf s).length = s.size := bytesOf_len s
    refine (lc_inv f (bytesOf s) (by omega) _ (by rw [hlen]; exact hle i (by omega))).2.2.2.2 _ ?_
    rw [getD_at (by omega), getD_at (by omega)]
    exact (List.pairwise_iff_getElem.1 h2) (i - 1) i (by omega) (by omega) (by omega)
/-- What the law of places asks. -/
theorem places_all (f : Int) (s : ByteArray) (hs : s.size ≤ 65536) :
    (∃ p, tokensV f s = ([], (5, p)) ∧ plOk f s.size (linesV (bytesOf s)) p) ∨ (∃ l : List Tok, tokensV f s = (l, (0, 0, 0, 0)) ∧ l.length ≤ 65540 ∧ 1 ≤ l.length ∧ (l.getD (l.length - 1) zT).1 = 1 ∧ plAll f s.size (linesV (bytesOf s)) l) := by
  have hlen : (bytesOf s).length = s.size := bytesOf_len s
  rcases tokens_ind (f := f) hs (fun a out => plJ f s a out ∧ out.length ≤ a) ⟨⟨[], rfl, List.Pairwise.nil, by simp⟩, by simp⟩
    (fun a out n nl hlt ⟨hJ, hl⟩ hg hn hle => by
      split
      · exact ⟨plJ_app _ _ hJ (by omega), by rw [List.length_append]; simp only [List.length_cons, List.length_nil]; omega⟩
      · exact ⟨plJ_mono hJ (by omega), by omega⟩)
    (fun a out nl k t m hlt ⟨hJ, hl⟩ hg ht hm hle => ⟨plJ_app _ _ hJ (by omega), by rw [List.length_append]; simp only [List.length_cons, List.length_nil]; omega⟩) with ⟨a, out, h1, h2, h3⟩ | ⟨out, ⟨h2, h4⟩, h3⟩
  · exact .inl ⟨_, h3, place_ok1 f hs (by omega)⟩
  · have et : lcV (bytesOf s) (1, 1) = lcV ((bytesOf s).take s.size) (1, 1) := by rw [List.take_of_length_le (by omega)]
    have key : ∀ o : List Tok, plJ f s s.size o → o.length ≤ 65537 → tokensV f s = (o ++ [(1, ⟨#[]⟩, f, lcV (bytesOf s) (1, 1))], (0, 0, 0, 0)) → ∃ l : List Tok, tokensV f s = (l, (0, 0, 0, 0)) ∧ l.length ≤ 65540 ∧ 1 ≤ l.length ∧ (l.getD (l.length - 1) zT).1 = 1 ∧ plAll f s.size (linesV (bytesOf s)) l := by
      intro o ho hol e
      refine ⟨_, e, by rw [List.length_append]; simp only [List.length_cons, List.length_nil]; omega, by simp, ?_, ?_⟩
      · rw [show (o ++ [((1 : Int), (⟨#[]⟩ : ByteArray), f, lcV (bytesOf s) (1, 1))]).length - 1 = o.length by simp, getD_last]
      · rw [et]
        exact plJ_all hs (Nat.le_refl _) (plJ_app _ _ ho (Nat.le_refl _))
    refine .inr ?_
    by_cases he : endsV out = true
    · rw [if_pos he] at h3
      refine key _ ?_ (by rw [List.length_append]; simp only [List.length_cons, List.length_nil]; omega) h3
      rw [et]
      exact plJ_app _ _ h2 (Nat.le_refl _)
    · rw [if_neg he] at h3
      exact key _ h2 (by omega) h3
end Go.Proofs.Ytodmofkeglfcaaa.Ch
