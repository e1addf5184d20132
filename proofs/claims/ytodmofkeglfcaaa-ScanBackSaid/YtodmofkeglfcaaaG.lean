/- Chapter 02 (scan): bytes are passed, tokens put, a line's end; what stands between: proved. No condition. -/
import Derived.Test.YtodmofkeglfcaaaF
namespace Go.Proofs.Ytodmofkeglfcaaa.Ch
open Go Go.Proofs Go.Proofs.Ytodmofkeglfcaaa.Sx
set_option linter.unusedVariables false
set_option linter.unusedSimpArgs false

theorem pass_ok : ∀ args h Q, pass_t args h Q → FSpec Try.prog 37 args h Q := trH_ok fun ((_, n, _) : Unit × Int × Unit) (((r, f, l, c, m, _), out, _) : (ByteArray × Int × Int × Int × Nat × Unit) × List Tok × Unit) Q ⟨⟨hm, hn0, hn⟩, h⟩ => by
  dsimp only at hm hn0 hn h; subst hm
  have hn0 : (0 : Int) ≤ n := hn0
  obtain ⟨k, rfl⟩ : ∃ k : Nat, n = k := ⟨n.toNat, by omega⟩
  rw [Int.toNat_natCast] at hn h
  refine spec_body (Λ := lam [(0, pass_l)]) gok0 Try.func37 rfl (lokl ⟨lam_ok (fun x Q ⟨hx, hm⟩ ho => pass_loop x.1 x.2.1 x.2.2 Q hx ho hm), trivial⟩) ?_
  show body Try.prog (gam []) (lam [(0, pass_l)]) Try.f37 [.c (.ptr 0 0), ti k] (scH f (r, (l, c), out)) _
  rw [vc_pass]
  refine ⟨by omega, by omega, fun hk => ⟨(f, (r, (l, c), out), k), rfl, ⟨hn, ?_⟩, by omega, by show (k : Int) ≤ (r.size : Int); omega, h⟩⟩
  have : (bytesOf (r.extract 0 k)).length = k := by rw [take_bytes hn, List.length_take, bytesOf_len]; omega
  have hk : (bytesOf (r.extract 0 k)).length ≤ maxI := hk
  rw [this] at hk
  exact hk
theorem put_ok : ∀ args h Q, put_t args h Q → FSpec Try.prog 22 args h Q := trH_ok fun ((_, k, t, n, _) : Unit × Int × ByteArray × Int × Unit) (((r, f, l, c, m, _), out, _) : (ByteArray × Int × Int × Int × Nat × Unit) × List Tok × Unit) Q ⟨⟨hm, hn0, hn, ho⟩, h⟩ => by
  dsimp only at hm hn0 hn ho h; subst hm
  refine spec_body (Γ := gam [(37, [], pass_t)]) (gam_ok ⟨pass_ok, trivial⟩) Try.func22 rfl noLam_ok ?_
  show body Try.prog (gam [(37, [], pass_t)]) noLam Try.f22 [.c (.ptr 0 0), ti k, .c (.str t), ti n] (scH f (r, (l, c), out)) _
  rw [vc_put, vw_all]
  refine ⟨by simp, by omega, by rw [List.length_append]; simp only [List.length_cons, List.length_nil]; omega, ⟨rfl, hn0, hn⟩, h⟩
theorem getD_last {α : Type} (i : List α) (t d : α) : (i ++ [t]).getD i.length d = t := by
  rw [List.getD_eq_getElem?_getD, List.getElem?_append_right (Nat.le_refl _)]; simp
theorem ends_ok : ∀ args h Q, ends_t args h Q → FSpec Try.prog 36 args h Q := trH_ok fun _ (((r, f, l, c, m, _), out, _) : (ByteArray × Int × Int × Int × Nat × Unit) × List Tok × Unit) Q ⟨⟨hm, ho⟩, h⟩ => by
  dsimp only at hm ho h; subst hm
  refine spec_body gok0 Try.func36 rfl noLam_ok ?_
  show body Try.prog (gam []) noLam Try.f36 [.c (.ptr 0 0)] (scH f (r, (l, c), out)) _
  rw [vc_ends]
  intro _
  rcases List.eq_nil_or_concat out with rfl | ⟨ini, t, rfl⟩
  · exact h
  rw [List.concat_eq_append] at ho h ⊢
  have hlen : (ini ++ [t]).length = ini.length + 1 := by simp
  rw [hlen] at ho
  have ew : IntKind.i64.wrap (((ini ++ [t]).length : Int) - 1) = (ini.length : Int) := by
    rw [hlen, show ((ini.length + 1 : Nat) : Int) - 1 = (ini.length : Int) by omega]; exact w64n (by omega)
  refine cond_of (fun hc => ?_) (fun _ => ?_)
  · have hc : ((ini ++ [t]).length : Int) = 0 := by simpa using hc
    rw [hlen] at hc; omega
  intro _
  rw [ew, Int.toNat_natCast, Nat.zero_add, getD_last]
  have he : endsV (ini ++ [t]) = endsT t.1 t.2.1 := by unfold endsV; rw [List.getLast?_concat]
  rw [he] at h
  unfold endsT at h
  obtain ⟨k, tx, ps⟩ := t
  dsimp only at h ⊢
  refine ⟨by omega, by rw [hlen]; omega, by rw [hlen]; omega, cond_of (fun g2 => ?_) (fun g2 => cond_of (fun g3 => ?_) (fun g3 => cond_of (fun g4 => ?_) (fun g4 => ?_)))⟩
  · have g2 : k = 2 := by simpa using g2
    rw [if_pos (.inl g2)] at h; exact h
  · have g3 : k = 3 := by simpa using g3
    rw [if_pos (.inr (.inl g3))] at h; exact h
  · have g4 : k = 4 := by simpa using g4
    rw [if_pos (.inr (.inr g4))] at h; exact h
  have g2 : k ≠ 2 := by simpa using g2
  have g3 : k ≠ 3 := by simpa using g3
  have g4 : k ≠ 4 := by simpa using g4
  rw [if_neg (by omega)] at h
  refine cond_of (fun g6 => ?_) (fun g6 => ?_)
  · have g6 : k = 6 := by simpa using g6
    rw [if_pos g6] at h
    unfold anyEq brkL at h
    simp only [List.any_cons, List.any_nil, Bool.or_false, ← Bool.or_assoc] at h
    exact h
  · have g6 : k ≠ 6 := by simpa using g6
    rw [if_neg g6] at h
    refine cond_of (fun g5 => ?_) (fun g5 => ?_)
    · have g5 : k = 5 := by simpa using g5
      rw [if_pos g5] at h
      unfold anyEq clsL at h
      simp only [List.any_cons, List.any_nil, Bool.or_false, ← Bool.or_assoc] at h
      exact h
    · have g5 : k ≠ 5 := by simpa using g5
      rw [if_neg g5] at h
      exact h
theorem end_ok : ∀ args h Q, end_t args h Q → FSpec Try.prog 21 args h Q := trH_ok fun _ (((r, f, l, c, m, _), out, _) : (ByteArray × Int × Int × Int × Nat × Unit) × List Tok × Unit) Q ⟨⟨hm, ho⟩, h⟩ => by
  dsimp only at hm ho h; subst hm
  refine spec_body (Γ := gam [(36, [], ends_t), (22, [], put_t)]) (gam_ok ⟨ends_ok, put_ok, trivial⟩) Try.func21 rfl noLam_ok ?_
  show body Try.prog (gam [(36, [], ends_t), (22, [], put_t)]) noLam Try.f21 [.c (.ptr 0 0)] (scH f (r, (l, c), out)) _
  rw [vc_end]
  unfold endV at h
  dsimp only at h
  refine ⟨⟨rfl, ho⟩, cond_of (fun hc => ?_) (fun hc => ?_)⟩
  · rw [if_pos hc] at h
    exact ⟨⟨rfl, by decide, Nat.zero_le _, ho⟩, h⟩
  · rw [if_neg (by rw [hc]; simp)] at h
    exact h
/-! ### what stands between -/
theorem extract_all (r : ByteArray) : r.extract 0 r.size = r := by
  refine bytesOf_inj ?_
  rw [bytesOf_extract, List.drop_zero, Nat.sub_zero, ← bytesOf_len, List.take_length]
theorem end_rest (f : Int) (s : Sc) : (endV f s).1 = s.1 := by
  unfold endV putV passV
  split
  · exact extract_all _
  · rfl
theorem lcV_nil (x : Int × Int) : lcV [] x = x := rfl
theorem end_lc (f : Int) (s : Sc) : (endV f s).2.1 = s.2.1 := by
  unfold endV putV passV
  split <;> rfl
theorem end_len (f : Int) (s : Sc) : (endV f s).2.2.length ≤ s.2.2.length + 1 := by
  unfold endV putV passV
  split
  · show (s.2.2 ++ [_]).length ≤ _
    rw [List.length_append]; exact Nat.le_refl _
  · exact Nat.le_succ _
theorem run_le (p : Int → Bool) (l : List Int) : runV p l ≤ l.length := (List.takeWhile_sublist p).length_le
theorem pre_iff (r : ByteArray) (a b : UInt8) : preV r ⟨#[a, b]⟩ = true ↔ (bytesOf r).take 2 = [(a.toNat : Int), (b.toNat : Int)] := by
  unfold preV
  rw [Bool.and_eq_true, decide_eq_true_eq, strEq_iff]
  constructor
  · rintro ⟨h1, h2⟩
    have h1 : 2 ≤ r.size := h1
    have h2 : r.extract 0 2 = ⟨#[a, b]⟩ := h2
    rw [← take_bytes h1, h2]; rfl
  · intro h
    have hl : 2 ≤ r.size := by
      have := congrArg List.length h
      rw [List.length_take, bytesOf_len] at this
      simp only [List.length_cons, List.length_nil] at this
      omega
    refine ⟨hl, bytesOf_inj ?_⟩
    show bytesOf (r.extract 0 2) = _
    rw [take_bytes hl, h]; rfl
theorem index_close : ∀ l : List UInt8, Lib.index l [42, 47] = match closeL (l.map fun b => (b.toNat : Int)) with | none => -1 | some k => (k : Int)
  | [] => rfl
  | a :: l => by
    have ih := index_close l
    rw [List.map_cons]
    unfold Lib.index closeL
    have hp : ([42, 47] : List UInt8).isPrefixOf (a :: l) = true ↔ ((a.toNat : Int) = 42 ∧ (l.map fun b => (b.toNat : Int)).head? = some 47) := by
      have ha : ((42 : UInt8) == a) = true ↔ (a.toNat : Int) = 42 := by
        rw [beq_iff_eq]
        constructor
        · rintro rfl; rfl
        · intro h; exact UInt8.toNat_inj.1 (show (42 : Nat) = a.toNat by omega)
      cases l with
      | nil => simp [List.isPrefixOf]
      | cons b l =>
        have hb : ((47 : UInt8) == b) = true ↔ (b.toNat : Int) = 47 := by
          rw [beq_iff_eq]
          constructor
          · rintro rfl; rfl
          · intro h; exact UInt8.toNat_inj.1 (show (47 : Nat) = b.toNat by omega)
        simp only [List.isPrefixOf, Bool.and_eq_true, Bool.and_true, List.map_cons, List.head?_cons, Option.some.injEq]
        rw [ha, hb]
    by_cases h : ([42, 47] : List UInt8).isPrefixOf (a :: l) = true
    · rw [if_pos h, if_pos (hp.1 h)]; rfl
    · rw [if_neg h, if_neg (fun h' => h (hp.2 h')), ih]
      cases closeL (l.map fun b => (b.toNat : Int)) with
      | none => rfl
      | some k =>
        have : ((k : Int) == -1) = false := by rw [beq_eq_false_iff_ne]; omega
        simp only [this, Option.map_some]
        show (if false = true then (-1 : Int) else (k : Int) + 1) = ((k + 1 : Nat) : Int)
        rw [if_neg (by simp)]; omega
theorem closeL_le : ∀ {l : List Int} {k : Nat}, closeL l = some k → k + 2 ≤ l.length
  | [], k, h => by simp [closeL] at h
  | a :: r, k, h => by
    unfold closeL at h
    split at h
    · rename_i hc
      cases h
      cases r with
      | nil => simp at hc
      | cons b r => simp
    · cases hr : closeL r with
      | none => rw [hr] at h; simp at h
      | some j => rw [hr] at h; simp at h; have := closeL_le hr; rw [List.length_cons]; omega
theorem idx10_iff : ∀ l : List UInt8, 0 ≤ Lib.indexByte l 10 ↔ (10 : Int) ∈ l.map fun b => (b.toNat : Int)
  | [] => by simp [Lib.indexByte]
  | a :: l => by
    have ih := idx10_iff l
    unfold Lib.indexByte
    rw [List.map_cons, List.mem_cons]
    by_cases ha : a = 10
    · subst ha; simp
    · have h1 : (a == 10) = false := by rw [beq_eq_false_iff_ne]; exact ha
      have h2 : ¬ (10 : Int) = (a.toNat : Int) := fun h => ha (UInt8.toNat_inj.1 (show a.toNat = 10 by omega))
      rw [h1]
      simp only [h2, false_or]
      rw [← ih]
      simp only [Bool.false_eq_true, if_false]
      split
      · rename_i h; simp at h; rw [h]
      · rename_i h; simp at h; have := Lib.indexByte_ge l 10; omega
end Go.Proofs.Ytodmofkeglfcaaa.Ch
