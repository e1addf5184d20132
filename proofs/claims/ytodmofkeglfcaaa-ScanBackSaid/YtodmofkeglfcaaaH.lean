/- Chapter 02 (scan): what stands between, tokens, steps: proved. No condition. -/
import Derived.Test.YtodmofkeglfcaaaG
namespace Go.Proofs.Ytodmofkeglfcaaa.Ch
open Go Go.Proofs Go.Proofs.Ytodmofkeglfcaaa.Sx
set_option linter.unusedVariables false
set_option linter.unusedSimpArgs false

theorem bytes_mk (l : List UInt8) : bytesOf ⟨l.toArray⟩ = l.map fun b => (b.toNat : Int) := rfl
theorem cut_close (r : ByteArray) : match closeL (bytesOf r) with
    | none => (cutV r ⟨#[42, 47]⟩).2.2 = false
    | some k => (cutV r ⟨#[42, 47]⟩).2.2 = true ∧ bytesOf (cutV r ⟨#[42, 47]⟩).1 = (bytesOf r).take k := by
  have h := index_close r.data.toList
  have hb : (r.data.toList.map fun b => (b.toNat : Int)) = bytesOf r := rfl
  rw [hb] at h
  have e : (⟨#[42, 47]⟩ : ByteArray).data.toList = [42, 47] := rfl
  unfold cutV Lib.cut
  rw [e]
  cases hc : closeL (bytesOf r) with
  | none =>
    rw [hc] at h
    dsimp only at h ⊢
    rw [h]; rfl
  | some k =>
    rw [hc] at h
    dsimp only at h ⊢
    rw [h, if_pos (Int.natCast_nonneg k)]
    refine ⟨rfl, ?_⟩
    show bytesOf ⟨(r.data.toList.take (k : Int).toNat).toArray⟩ = _
    rw [bytes_mk, Int.toNat_natCast, List.map_take]; rfl
theorem gokGap : GOK Try.prog (gam [(40, [], pre_t), (30, [], run_t), (42, [], cut_t), (43, [], idxB_t), (21, [], end_t), (37, [], pass_t)]) := gam_ok ⟨pre_ok, run_ok, cut_ok, idx_ok, end_ok, pass_ok, trivial⟩
theorem run_pos {p : Int → Bool} {l : List Int} (h : p (l.getD 0 0) = true) (hl : 1 ≤ l.length) : 1 ≤ runV p l := by
  cases l with
  | nil => simp at hl
  | cons b l =>
    unfold runV
    have e : p b = true := h
    rw [List.takeWhile_cons, e]; simp
theorem gap_ok : ∀ args h Q, gap_t args h Q → FSpec Try.prog 34 args h Q := trH_ok fun _ (((r, f, l, c, m, _), out, _) : (ByteArray × Int × Int × Int × Nat × Unit) × List Tok × Unit) Q ⟨⟨hm, ho, hr, hr2⟩, h⟩ => by
  dsimp only at hm ho hr hr2 h; subst hm
  refine spec_body gokGap Try.func34 rfl noLam_ok ?_
  show body Try.prog (gam [(40, [], pre_t), (30, [], run_t), (42, [], cut_t), (43, [], idxB_t), (21, [], end_t), (37, [], pass_t)]) noLam Try.f34 [.c (.ptr 0 0)] (scH f (r, (l, c), out)) _
  rw [vc_gap]
  have e0 : bt r 0 = (bytesOf r).getD 0 0 := bt_get hr
  rw [e0]
  unfold gapS gapL at h
  dsimp only at h
  have er : (endV f (r, (l, c), out)).1 = r := end_rest _ _
  have o1 : out.length ≤ 1000000 := by omega
  have zz : (0 : Int) ≤ 0 := Int.le_refl _
  have rp : (0 : Int) < (r.size : Int) := by omega
  have hl : (bytesOf r).length = r.size := bytesOf_len r
  refine ⟨zz, rp, cond_of (fun h1 => ?_) (fun h1 => ?_)⟩
  · have h1 : (bytesOf r).getD 0 0 = 10 := by simpa using h1
    rw [if_pos h1] at h
    exact ⟨⟨rfl, o1⟩, ⟨rfl, by decide, by rw [er]; exact hr⟩, h⟩
  have h1 : (bytesOf r).getD 0 0 ≠ 10 := by simpa using h1
  rw [if_neg h1] at h
  refine ⟨zz, rp, fun _ => ⟨zz, rp, trivial⟩, fun _ => ⟨zz, rp, trivial⟩, cond_of (fun h2 => ?_) (fun h2 => ?_)⟩
  · have h2 : (bytesOf r).getD 0 0 = 32 ∨ (bytesOf r).getD 0 0 = 9 ∨ (bytesOf r).getD 0 0 = 13 := by
      simp only [Bool.or_eq_true, beq_iff_eq] at h2
      rcases h2 with (h2 | h2) | h2
      · exact .inl h2
      · exact .inr (.inl h2)
      · exact .inr (.inr h2)
    rw [if_pos h2] at h
    exact ⟨⟨rfl, by decide, hr⟩, h⟩
  have h2 : ¬ ((bytesOf r).getD 0 0 = 32 ∨ (bytesOf r).getD 0 0 = 9 ∨ (bytesOf r).getD 0 0 = 13) := by
    simp only [Bool.or_eq_false_iff, beq_eq_false_iff_ne] at h2
    rintro (h | h | h)
    · exact h2.1.1 h
    · exact h2.1.2 h
    · exact h2.2 h
  rw [if_neg h2] at h
  refine cond_of (fun h3 => ?_) (fun h3 => ?_)
  · have h3 : (bytesOf r).take 2 = [47, 47] := (pre_iff r 47 47).1 h3
    rw [if_pos h3] at h
    have hp : 1 ≤ runV notNl (bytesOf r) := run_pos (by unfold notNl; rw [decide_eq_false h1]; rfl) (by omega)
    have hle := run_le notNl (bytesOf r)
    dsimp only at h
    rw [if_neg (by omega)] at h
    rw [Int.toNat_natCast]
    exact ⟨⟨rfl, by show (0 : Int) ≤ (runV notNl (bytesOf r) : Int); omega, by omega⟩, h⟩
  have h3 : ¬ (bytesOf r).take 2 = [47, 47] := fun e => by rw [(pre_iff r 47 47).2 e] at h3; cases h3
  rw [if_neg h3] at h
  refine cond_of (fun h4 => ?_) (fun h4 => ?_)
  · have h4 := (pre_iff r 47 42).1 h4
    have h4 : (bytesOf r).take 2 = [47, 42] := h4
    rw [if_pos h4] at h
    have hl2 : 2 ≤ r.size := by
      have := congrArg List.length h4
      rw [List.length_take, hl] at this
      simp only [List.length_cons, List.length_nil] at this
      omega
    have ed : bytesOf (r.extract 2 r.size) = (bytesOf r).drop 2 := by
      rw [bytesOf_extract, List.take_of_length_le]; rw [List.length_drop, hl]; omega
    have hcl := cut_close (r.extract 2 r.size)
    rw [ed] at hcl
    have es : (r.extract 2 r.size).size = r.size - 2 := by rw [← bytesOf_len, ed, List.length_drop, hl]
    show (0 : Int) ≤ 2 ∧ (2 : Int) ≤ (r.size : Int) ∧ (r.extract 2 r.size).size < 4294967281 ∧ _
    refine ⟨by omega, by omega, by omega, ?_⟩
    have eh : hiN r.size none = r.size := rfl
    rw [eh]
    cases hc : closeL ((bytesOf r).drop 2) with
    | none =>
      rw [hc] at hcl h
      dsimp only at hcl h
      rw [hcl]
      exact h
    | some k =>
      rw [hc] at hcl h
      dsimp only at hcl h
      obtain ⟨hc1, hc2⟩ := hcl
      have hk := closeL_le hc
      rw [List.length_drop, hl] at hk
      have hsz : (cutV (r.extract 2 r.size) ⟨#[42, 47]⟩).1.size = k := by rw [← bytesOf_len, hc2, List.length_take, List.length_drop, hl]; omega
      rw [hc1, hsz]
      rw [if_neg (by omega)] at h
      have ew : (IntKind.i64.wrap (IntKind.i64.wrap ((2 : Int) + (k : Int)) + 2)) = ((k + 4 : Nat) : Int) := by
        rw [w64 (x := 2 + (k : Int)) (by omega) (by omega), w64 (by omega) (by omega)]; omega
      rw [ew, Int.toNat_natCast]
      show bif decide (Lib.indexByte (cutV (r.extract 2 r.size) ⟨#[42, 47]⟩).1.data.toList 10 ≥ 0) then _ else _
      have hix : (Lib.indexByte (cutV (r.extract 2 r.size) ⟨#[42, 47]⟩).1.data.toList 10 ≥ 0) ↔ (10 : Int) ∈ ((bytesOf r).drop 2).take k := by
        rw [← hc2]; exact idx10_iff _
      refine cond_of (fun h5 => ?_) (fun h5 => ?_)
      · have h5 := hix.1 (of_decide_eq_true h5)
        rw [if_pos (decide_eq_true h5)] at h
        refine ⟨⟨rfl, o1⟩, fun _ => ⟨⟨rfl, by show (0 : Int) ≤ ((k + 4 : Nat) : Int); omega, by rw [er]; omega⟩, h⟩⟩
      · have h5 : ¬ (10 : Int) ∈ ((bytesOf r).drop 2).take k := fun h' => of_decide_eq_false h5 (hix.2 h')
        rw [if_neg (by rw [decide_eq_true_eq]; exact h5)] at h
        exact fun _ => ⟨⟨rfl, by show (0 : Int) ≤ ((k + 4 : Nat) : Int); omega, by omega⟩, h⟩
  have h4 : ¬ (bytesOf r).take 2 = [47, 42] := fun e => by rw [(pre_iff r 47 42).2 e] at h4; cases h4
  rw [if_neg h4] at h
  exact h
/-! ### tokens -/
theorem strOf_take {r : ByteArray} {n : Nat} (h : n ≤ r.size) : strOf ((bytesOf r).take n) = r.extract 0 n := by rw [← take_bytes h, strOf_bytesOf]
theorem word_ok : ∀ args h Q, word_t args h Q → FSpec Try.prog 44 args h Q := trH_ok fun _ (((r, f, l, c, m, _), out, _) : (ByteArray × Int × Int × Int × Nat × Unit) × List Tok × Unit) Q ⟨⟨⟨hm, ho, hr, hr2⟩, hb⟩, h⟩ => by
  dsimp only at hm ho hr hr2 hb h; subst hm
  refine spec_body (Γ := gam [(30, [], run_t), (12, [], isword_t), (22, [], put_t)]) (gam_ok ⟨run_ok, isword_ok, put_ok, trivial⟩) Try.func44 rfl noLam_ok ?_
  show body Try.prog (gam [(30, [], run_t), (12, [], isword_t), (22, [], put_t)]) noLam Try.f44 [.c (.ptr 0 0)] (scH f (r, (l, c), out)) _
  rw [vc_word]
  have hle := run_le partB (bytesOf r)
  rw [bytesOf_len] at hle
  have eh : hiN r.size (some (runV partB (bytesOf r) : Int)) = runV partB (bytesOf r) := rfl
  have es : (r.extract 0 (runV partB (bytesOf r))).size = runV partB (bytesOf r) := by rw [← bytesOf_len, take_bytes hle, List.length_take, bytesOf_len]; omega
  rw [eh, es, Int.toNat_natCast]
  unfold tokS tokL at h
  dsimp only at h
  rw [if_pos hb] at h
  dsimp only at h
  rw [strOf_take hle] at h
  refine ⟨by omega, by omega, cond_of (fun h1 => ?_) (fun h1 => ?_)⟩
  · rw [if_pos h1] at h
    exact fun _ => ⟨⟨rfl, by show (0 : Int) ≤ (runV partB (bytesOf r) : Int); omega, hle, by omega⟩, h⟩
  · rw [if_neg (by rw [h1]; simp)] at h
    exact fun _ => ⟨⟨rfl, by show (0 : Int) ≤ (runV partB (bytesOf r) : Int); omega, hle, by omega⟩, h⟩
theorem number_ok : ∀ args h Q, number_t args h Q → FSpec Try.prog 45 args h Q := trH_ok fun _ (((r, f, l, c, m, _), out, _) : (ByteArray × Int × Int × Int × Nat × Unit) × List Tok × Unit) Q ⟨⟨⟨hm, ho, hr, hr2⟩, hb, hb2⟩, h⟩ => by
  dsimp only at hm ho hr hr2 hb hb2 h; subst hm
  refine spec_body (Γ := gam [(30, [], run_t), (31, [], part_t), (22, [], put_t)]) (gam_ok ⟨run_ok, part_ok, put_ok, trivial⟩) Try.func45 rfl noLam_ok ?_
  show body Try.prog (gam [(30, [], run_t), (31, [], part_t), (22, [], put_t)]) noLam Try.f45 [.c (.ptr 0 0)] (scH f (r, (l, c), out)) _
  rw [vc_number]
  have hl : (bytesOf r).length = r.size := bytesOf_len r
  have e0 : bt r 0 = (bytesOf r).getD 0 0 := bt_get hr
  rw [e0]
  unfold tokS tokL at h
  dsimp only at h
  rw [if_neg (by rw [hb]; simp), if_pos hb2] at h
  have key : ∀ n : Nat, 1 ≤ n → n ≤ r.size → (if (bytesOf r).getD 0 0 = 48 then 1 else runV digB (bytesOf r)) = n →
      (decide ((n : Int) < (r.size : Int)) = true → (0 : Int) ≤ (n : Int) ∧ (n : Int) < (r.size : Int) ∧ True) ∧ bif decide ((n : Int) < (r.size : Int)) then bif true && partB (bt r (n : Int)) then Q (.p (ti 5)) (scH f (r, (l, c), out)) else (0 : Int) ≤ (n : Int) ∧ (n : Int) ≤ (r.size : Int) ∧ (out.length = out.length ∧ (0 : Int) ≤ (n : Int) ∧ n ≤ r.size ∧ out.length ≤ 1000000) ∧ Q (.p (ti 0)) (scH f (putV f 3 (r.extract 0 n) n (r, (l, c), out)))
      else (0 : Int) ≤ (n : Int) ∧ (n : Int) ≤ (r.size : Int) ∧ (out.length = out.length ∧ (0 : Int) ≤ (n : Int) ∧ n ≤ r.size ∧ out.length ≤ 1000000) ∧ Q (.p (ti 0)) (scH f (putV f 3 (r.extract 0 n) n (r, (l, c), out))) := by
    intro n hn1 hn2 en
    rw [en] at h
    refine ⟨fun hd => ⟨by omega, of_decide_eq_true hd, trivial⟩, cond_of (fun h1 => ?_) (fun h1 => ?_)⟩
    · have h1 : n < r.size := by have := of_decide_eq_true h1; omega
      rw [bt_get h1, Bool.true_and]
      refine cond_of (fun h2 => ?_) (fun h2 => ?_)
      · rw [if_pos ⟨by omega, h2⟩] at h
        exact h
      · rw [if_neg (by rw [h2]; simp)] at h
        dsimp only at h
        rw [strOf_take hn2] at h
        exact ⟨by omega, by omega, ⟨rfl, by omega, hn2, by omega⟩, h⟩
    · have h1 : ¬ n < r.size := by have := of_decide_eq_false h1; omega
      rw [if_neg (by rw [hl]; exact fun h => h1 h.1)] at h
      dsimp only at h
      rw [strOf_take hn2] at h
      exact ⟨by omega, by omega, ⟨rfl, by omega, hn2, by omega⟩, h⟩
  have hle := run_le digB (bytesOf r)
  rw [hl] at hle
  refine ⟨by omega, by omega, cond_of (fun h1 => fun _ => ?_) (fun h1 => fun _ => ?_)⟩
  · have h1 : (bytesOf r).getD 0 0 ≠ 48 := by simpa using h1
    exact key _ (run_pos hb2 (by omega)) hle (if_neg h1)
  · have h1 : (bytesOf r).getD 0 0 = 48 := by simpa using h1
    exact key 1 (Nat.le_refl _) hr (if_pos h1)
end Go.Proofs.Ytodmofkeglfcaaa.Ch
