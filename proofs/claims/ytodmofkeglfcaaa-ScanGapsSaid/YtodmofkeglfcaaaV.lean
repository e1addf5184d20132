/- Chapter 02 (scan): what stands between changes nothing, in plain Lean. No condition. -/
import Derived.Test.YtodmofkeglfcaaaT
namespace Go.Proofs.Ytodmofkeglfcaaa.Ch
open Go Go.Proofs Go.Proofs.Ytodmofkeglfcaaa.Sx
set_option linter.unusedVariables false
set_option linter.unusedSimpArgs false

/-- The tokens of bytes without a fault: the scanner's way, and of each token the place that it comes by. -/
theorem tokens_bwd (f : Int) {s : ByteArray} (hs : s.size ≤ 65536) {l : List Tok} (h : tokensV f s = (l, (0, 0, 0, 0))) :
    ∃ out : List KT, Scan (bytesOf s) [] [] out ∧ l.map kt = finK out ∧ ∀ i, i < l.length → ∃ b, b ≤ s.size ∧ (l.getD i zT).2.2 = (f, lcV ((bytesOf s).take b) (1, 1)) ∧ ∃ o1, Scan (bytesOf s) [] ((bytesOf s).drop b) o1 ∧ Scan ((bytesOf s).drop b) o1 [] out := by
  have hlen : (bytesOf s).length = s.size := bytesOf_len s
  have app : ∀ (a a' : Nat) (o : List Tok) (t : Tok), a ≤ s.size → a ≤ a' → t.2.2 = (f, lcV ((bytesOf s).take a) (1, 1)) →
      Scan (bytesOf s) [] ((bytesOf s).drop a) (o.map kt) → Scan ((bytesOf s).drop a) (o.map kt) ((bytesOf s).drop a') ((o ++ [t]).map kt) →
      (∀ i, i < o.length → ∃ b, b ≤ a ∧ (o.getD i zT).2.2 = (f, lcV ((bytesOf s).take b) (1, 1)) ∧ ∃ o1, Scan (bytesOf s) [] ((bytesOf s).drop b) o1 ∧ Scan ((bytesOf s).drop b) o1 ((bytesOf s).drop a) (o.map kt)) →
      ∀ i, i < (o ++ [t]).length → ∃ b, b ≤ a' ∧ ((o ++ [t]).getD i zT).2.2 = (f, lcV ((bytesOf s).take b) (1, 1)) ∧ ∃ o1, Scan (bytesOf s) [] ((bytesOf s).drop b) o1 ∧ Scan ((bytesOf s).drop b) o1 ((bytesOf s).drop a') ((o ++ [t]).map kt) := by
    intro a a' o t ha haa ht h1 h2 h3 i hi
    rw [List.length_append] at hi
    simp only [List.length_cons, List.length_nil] at hi
    rcases Nat.lt_or_ge i o.length with hlt | hge
    · obtain ⟨b, hb, e, o1, q1, q2⟩ := h3 i hlt
      refine ⟨b, by omega, ?_, o1, q1, q2.trans h2⟩
      rw [List.getD_eq_getElem?_getD, List.getElem?_append_left hlt, ← List.getD_eq_getElem?_getD]
      exact e
    · obtain rfl : i = o.length := by omega
      exact ⟨a, haa, by rw [getD_last]; exact ht, o.map kt, h1, h2⟩
  rcases tokens_ind (f := f) hs (fun a o => a ≤ s.size ∧ Scan (bytesOf s) [] ((bytesOf s).drop a) (o.map kt) ∧ ∀ i, i < o.length → ∃ b, b ≤ a ∧ (o.getD i zT).2.2 = (f, lcV ((bytesOf s).take b) (1, 1)) ∧ ∃ o1, Scan (bytesOf s) [] ((bytesOf s).drop b) o1 ∧ Scan ((bytesOf s).drop b) o1 ((bytesOf s).drop a) (o.map kt))
    ⟨Nat.zero_le _, .refl _ _, fun i hi => by simp at hi⟩
    (fun a o n nl hlt ⟨h0, h1, h2⟩ hg hn hle => by
      have hst : Scan ((bytesOf s).drop a) (o.map kt) ((bytesOf s).drop (a + n)) ((if nl = true ∧ endsV o = true then o ++ [semiT f (lcV ((bytesOf s).take a) (1, 1))] else o).map kt) := by
        refine .gap n nl hg hn ?_
        rw [List.drop_drop, semi_kt]
        exact .refl _ _
      refine ⟨hle, h1.trans hst, ?_⟩
      by_cases hc : nl = true ∧ endsV o = true
      · rw [if_pos hc] at hst ⊢
        exact app a (a + n) o _ h0 (by omega) rfl h1 hst h2
      · rw [if_neg hc] at hst ⊢
        intro i hi
        obtain ⟨b, hb, e, o1, q1, q2⟩ := h2 i hi
        exact ⟨b, by omega, e, o1, q1, q2.trans hst⟩)
    (fun a o nl k t m hlt ⟨h0, h1, h2⟩ hg ht hm hle => by
      have hst : Scan ((bytesOf s).drop a) (o.map kt) ((bytesOf s).drop (a + m)) ((o ++ [(k, strOf t, f, lcV ((bytesOf s).take a) (1, 1))]).map kt) := by
        refine .tok nl k t m ?_ hg ht ?_
        · intro e
          have := congrArg List.length e
          rw [List.length_drop, hlen] at this
          simp only [List.length_nil] at this
          omega
        · rw [List.drop_drop, List.map_append]
          exact .refl _ _
      exact ⟨hle, h1.trans hst, app a (a + m) o _ h0 (by omega) rfl h1 hst h2⟩) with ⟨a, o, _, _, e⟩ | ⟨o, ⟨_, h1, h2⟩, e⟩
  · rw [h] at e
    injection e with _ e
    injection e with e _
    cases e
  · have hd : (bytesOf s).drop s.size = [] := List.drop_eq_nil_of_le (by omega)
    have et : lcV (bytesOf s) (1, 1) = lcV ((bytesOf s).take s.size) (1, 1) := by rw [List.take_of_length_le (by omega)]
    rw [hd] at h1
    rw [h] at e
    injection e with el _
    refine ⟨o.map kt, h1, ?_, fun i hi => ?_⟩
    · rw [el, List.map_append]
      unfold finK
      rw [ends_kt]
      congr 1
      split
      · rw [List.map_append]; rfl
      · rfl
    · rcases Nat.lt_or_ge i o.length with hlt | hge
      · obtain ⟨b, hb, eb, o1, q1, q2⟩ := h2 i hlt
        rw [hd] at q2
        refine ⟨b, hb, ?_, o1, q1, q2⟩
        rw [el, List.getD_eq_getElem?_getD, List.getElem?_append_left (by split; (rw [List.length_append]; omega); exact hlt)]
        rw [← eb]
        split
        · rw [List.getElem?_append_left hlt, ← List.getD_eq_getElem?_getD]
        · rw [← List.getD_eq_getElem?_getD]
      · refine ⟨s.size, Nat.le_refl _, ?_, o.map kt, by rw [hd]; exact h1, by rw [hd]; exact .refl _ _⟩
        rw [el] at hi ⊢
        rw [et]
        have hm : ((if endsV o = true then o ++ [semiT f (lcV ((bytesOf s).take s.size) (1, 1))] else o) ++ [((1 : Int), (⟨#[]⟩ : ByteArray), f, lcV ((bytesOf s).take s.size) (1, 1))]).getD i zT = semiT f (lcV ((bytesOf s).take s.size) (1, 1)) ∨ ((if endsV o = true then o ++ [semiT f (lcV ((bytesOf s).take s.size) (1, 1))] else o) ++ [((1 : Int), (⟨#[]⟩ : ByteArray), f, lcV ((bytesOf s).take s.size) (1, 1))]).getD i zT = (1, ⟨#[]⟩, f, lcV ((bytesOf s).take s.size) (1, 1)) := by
          by_cases hc : endsV o = true
          · rw [if_pos hc] at hi ⊢
            simp only [List.length_append, List.length_cons, List.length_nil] at hi
            rcases Nat.lt_or_ge i (o.length + 1) with h3 | h3
            · obtain rfl : i = o.length := by omega
              left
              rw [List.append_assoc, List.getD_eq_getElem?_getD, List.getElem?_append_right (Nat.le_refl _), Nat.sub_self]; rfl
            · obtain rfl : i = o.length + 1 := by omega
              right
              rw [List.getD_eq_getElem?_getD, List.getElem?_append_right (by simp)]
              simp
          · rw [if_neg hc] at hi ⊢
            simp only [List.length_append, List.length_cons, List.length_nil] at hi
            obtain rfl : i = o.length := by omega
            right
            rw [getD_last]
        rcases hm with hm | hm <;> rw [hm]
/-! ### what is put in is passed -/
abbrev gapsB : List ByteArray := [⟨#[32]⟩, ⟨#[9]⟩, ⟨#[32, 47, 42, 32, 120, 32, 42, 47]⟩, ⟨#[32, 47, 42, 42, 47, 32]⟩]
theorem eat1 (q : List Int) (o : List KT) : Scan (32 :: q) o q o := .gap 1 false rfl (by decide) (.refl _ _)
theorem eat2 (q : List Int) (o : List KT) : Scan (9 :: q) o q o := .gap 1 false rfl (by decide) (.refl _ _)
theorem eat3 (q : List Int) (o : List KT) : Scan ([32, 47, 42, 32, 120, 32, 42, 47] ++ q) o q o := (eat1 _ o).trans (.gap 7 false rfl (by decide) (.refl _ _))
theorem eat4 (q : List Int) (o : List KT) : Scan ([32, 47, 42, 42, 47, 32] ++ q) o q o := (eat1 _ o).trans (.gap (l' := q) (out' := o) 4 false rfl (by decide) (eat1 q o))
theorem eat5 (o : List KT) : Scan [32, 47, 47, 32, 98, 101, 104, 105, 110, 100] o [] o := (eat1 _ o).trans (.gap 9 false rfl (by decide) (.refl _ _))
theorem put_in {B g : List Int} {b : Nat} {o1 out : List KT} (hb : ∀ q, isBl ((g ++ q).getD 0 0)) (hg : ∀ c ∈ g, notNl c = true) (he : Scan (g ++ B.drop b) o1 (B.drop b) o1) (h1 : Scan B [] (B.drop b) o1) (h2 : Scan (B.drop b) o1 [] out) : Scan (B.take b ++ (g ++ B.drop b)) [] [] out := by
  rcases scan_ins (hb _) hg h1 rfl (B.take b) (List.take_append_drop b B).symm with h | h
  · exact (h.trans he).trans h2
  · exact h.trans h2
theorem eat_gaps {g : ByteArray} (hg : g ∈ gapsB) : (∀ q, isBl ((bytesOf g ++ q).getD 0 0)) ∧ (∀ c ∈ bytesOf g, notNl c = true) ∧ ∀ q o, Scan (bytesOf g ++ q) o q o := by
  simp only [gapsB, List.mem_cons, List.not_mem_nil, or_false] at hg
  rcases hg with rfl | rfl | rfl | rfl
  · exact ⟨fun q => .inl rfl, by decide +kernel, eat1⟩
  · exact ⟨fun q => .inr rfl, by decide +kernel, eat2⟩
  · exact ⟨fun q => .inl rfl, by decide +kernel, eat3⟩
  · exact ⟨fun q => .inl rfl, by decide +kernel, eat4⟩
abbrev behB : ByteArray := ⟨#[32, 47, 47, 32, 98, 101, 104, 105, 110, 100]⟩
theorem gaps_all {s : ByteArray} (hs : s.size ≤ 2048) {l : List Tok} (h : tokensV 0 s = (l, (0, 0, 0, 0))) :
    (∃ m, tokensV 0 (s ++ behB) = (m, (0, 0, 0, 0)) ∧ sameV false l m = true) ∧
    ∀ i, i < l.length → ∃ b, b ≤ s.size ∧ (l.getD i zT).2.2 = (0, lcV ((bytesOf s).take b) (1, 1)) ∧ ∀ g ∈ gapsB, ∃ m, tokensV 0 (s.extract 0 b ++ g ++ s.extract b s.size) = (m, (0, 0, 0, 0)) ∧ sameV false l m = true := by
  have hlen : (bytesOf s).length = s.size := bytesOf_len s
  obtain ⟨out, h1, h2, h3⟩ := tokens_bwd 0 (by omega) h
  have fin : ∀ s' : ByteArray, s'.size ≤ 65536 → Scan (bytesOf s') [] [] out → ∃ m, tokensV 0 s' = (m, (0, 0, 0, 0)) ∧ sameV false l m = true := by
    intro s' hs' hsc
    obtain ⟨m, e1, e2⟩ := tokens_fwd 0 hs' hsc
    exact ⟨m, e1, same_kt.2 (by rw [h2, e2])⟩
  refine ⟨fin _ (by rw [ByteArray.size_append]; show s.size + 10 ≤ 65536; omega) ?_, fun i hi => ?_⟩
  · rw [bytesOf_append]
    have hd : (bytesOf s).drop s.size = [] := List.drop_eq_nil_of_le (by omega)
    have ht : (bytesOf s).take s.size = bytesOf s := List.take_of_length_le (by omega)
    have := put_in (B := bytesOf s) (g := bytesOf behB) (b := s.size) (o1 := out) (out := out) (fun q => .inl rfl) (by decide +kernel) (by rw [hd, List.append_nil]; exact eat5 out) (by rw [hd]; exact h1) (by rw [hd]; exact .refl _ _)
    rw [hd, ht, List.append_nil] at this
    exact this
  · obtain ⟨b, hb, e, o1, q1, q2⟩ := h3 i hi
    refine ⟨b, hb, e, fun g hg => ?_⟩
    obtain ⟨g1, g2, g3⟩ := eat_gaps hg
    have gsz : g.size ≤ 8 := by
      simp only [gapsB, List.mem_cons, List.not_mem_nil, or_false] at hg
      rcases hg with rfl | rfl | rfl | rfl <;> decide
    refine fin _ ?_ ?_
    · rw [ByteArray.size_append, ByteArray.size_append, ByteArray.size_extract, ByteArray.size_extract]; omega
    · rw [bytesOf_append, bytesOf_append, take_bytes hb, bytes_at, List.append_assoc]
      exact put_in g1 g2 (g3 _ _) q1 q2
/-! ### where a line begins -/
theorem lines_step1 {l : List Int} {i : Nat} (h : i < l.length) : linesV (l.take (i + 1)) = linesV (l.take i) + (if l.getD i 0 = 10 then 1 else 0) := by
  unfold linesV
  rw [List.take_add_one, List.getElem?_eq_getElem h, List.count_append, getD_at h]
  by_cases hb : l[i] = 10
  · rw [if_pos hb]; simp [hb]; omega
  · rw [if_neg hb]
    simp [List.count_cons, hb]
theorem line_start (l : List Int) (hl : l.length ≤ 1000000) : ∀ a, a ≤ l.length → ∃ K, K ≤ a ∧ (lcV (l.take a) (1, 1)).2 = ((a - K : Nat) : Int) + 1 ∧ linesV (l.take K) = linesV (l.take a) ∧ (∀ i, i < K → linesV (l.take i) < linesV (l.take a)) ∧ ∀ i, i ≤ a → linesV (l.take i) ≤ linesV (l.take a) := by
  intro a
  induction a with
  | zero => intro _; exact ⟨0, Nat.le_refl _, rfl, rfl, fun i hi => by omega, fun i hi => by rw [show i = 0 by omega]; exact Int.le_refl _⟩
  | succ a ih =>
    intro ha
    have ha' : a < l.length := by omega
    obtain ⟨K, h1, h2, h3, h4, h5⟩ := ih (by omega)
    rw [lcV_succ ha', lines_step1 ha']
    unfold lcB
    by_cases hb : l.getD a 0 = 10
    · rw [if_pos hb, if_pos hb]
      refine ⟨a + 1, Nat.le_refl _, by show (1 : Int) = _; omega, by rw [lines_step1 ha', if_pos hb], fun i hi => ?_, fun i hi => ?_⟩
      · have := h5 i (by omega); omega
      · rcases Nat.lt_or_ge i (a + 1) with h | h
        · have := h5 i (by omega); omega
        · rw [show i = a + 1 by omega, lines_step1 ha', if_pos hb]; exact Int.le_refl _
    · rw [if_neg hb, if_neg hb, Int.add_zero]
      refine ⟨K, by omega, ?_, h3, h4, fun i hi => ?_⟩
      · show IntKind.i64.wrap ((lcV (l.take a) (1, 1)).2 + 1) = _
        rw [h2, w64 (by omega) (by omega)]; omega
      · rcases Nat.lt_or_ge i (a + 1) with h | h
        · exact h5 i (by omega)
        · rw [show i = a + 1 by omega, lines_step1 ha', if_neg hb]; omega
end Go.Proofs.Ytodmofkeglfcaaa.Ch
