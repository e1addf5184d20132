/- Chapter 15 (cell): the law CellApart over the abstract machine. No condition. -/
import Derived.Test.YtpkmppfijhhpbaaCHV
namespace Go.Proofs.Ytpkmppfijhhpbaa.Ch
open Go Go.Proofs Go.Proofs.Ytpkmppfijhhpbaa.Sx
set_option linter.unusedVariables false
set_option linter.unusedSimpArgs false

theorem off_succ (rows : List (List V)) (j : Nat) (h : j < rows.length) : offOf rows (j + 1) = offOf rows j + rows[j].length := by
  unfold offOf
  rw [List.take_succ_eq_append_getElem h, List.flatten_append, List.length_append]
  simp
theorem off_mono (rows : List (List V)) : ∀ (k j : Nat), j ≤ k → k ≤ rows.length → offOf rows j ≤ offOf rows k
  | 0, j, h, _ => by rw [show j = 0 by omega]; exact Nat.le_refl _
  | k + 1, j, h, hk => by
    by_cases hj : j = k + 1
    · rw [hj]; exact Nat.le_refl _
    · have := off_mono rows k j (by omega) (by omega)
      rw [off_succ rows k (by omega)]; omega
theorem off_all (rows : List (List V)) : offOf rows rows.length = rows.flatten.length := by unfold offOf; rw [List.take_length]
theorem off_le (rows : List (List V)) (j : Nat) (h : j < rows.length) : offOf rows j + rows[j].length ≤ rows.flatten.length := by
  rw [← off_succ rows j h, ← off_all]
  exact off_mono rows _ _ (by omega) (Nat.le_refl _)
theorem flat_le (rows : List (List V)) (hr : ∀ r ∈ rows, r.length ≤ 20) : ∀ j, j ≤ rows.length → offOf rows j ≤ 20 * j
  | 0, _ => by simp [offOf]
  | j + 1, h => by
    rw [off_succ rows j (by omega)]
    have := flat_le rows hr j (by omega)
    have := hr rows[j] (List.getElem_mem _)
    omega
theorem vw_flat (rows : List (List V)) (j : Nat) (h : j < rows.length) : vw rows.flatten (offOf rows j) rows[j].length = rows[j] := by
  have e : rows.flatten = (rows.take j).flatten ++ (rows[j] ++ (rows.drop (j + 1)).flatten) := by
    conv => lhs; rw [← List.take_append_drop j rows, List.flatten_append, List.drop_eq_getElem_cons h, List.flatten_cons]
  unfold vw offOf
  rw [e, List.drop_left, List.take_left]
theorem vw_splice_out {α : Type} (l n : List α) (o a m : Nat) (h : o + n.length ≤ l.length) (hd : a + m ≤ o ∨ o + n.length ≤ a) : vw (splice l o n) a m = vw l a m := by
  apply List.ext_getElem?
  intro i
  unfold vw splice
  rw [List.getElem?_take, List.getElem?_take]
  by_cases hi : i < m
  · rw [if_pos hi, if_pos hi, List.getElem?_drop, List.getElem?_drop]
    have e1 : (l.take o).length = o := by rw [List.length_take]; omega
    rcases hd with hd | hd
    · rw [List.append_assoc, List.getElem?_append_left (by omega), List.getElem?_take, if_pos (by omega)]
    · rw [List.getElem?_append_right (by rw [List.length_append]; omega), List.length_append, e1, List.getElem?_drop]
      congr 1; omega
  · rw [if_neg hi, if_neg hi]
theorem vw_splice_in {α : Type} (l n : List α) (o m : Nat) (h : o + m ≤ l.length) (hm : n.length ≤ m) : vw (splice l o n) o m = n ++ (vw l o m).drop n.length := by
  have e1 : (l.take o).length = o := by rw [List.length_take]; omega
  unfold vw splice
  rw [List.append_assoc, List.drop_append_of_le_length (by omega), List.drop_of_length_le (by omega), List.nil_append, List.take_append, List.take_of_length_le hm, List.drop_take, List.drop_drop]
theorem ats_get (rows : List (List V)) (j : Nat) (h : j < rows.length) (d : Int) : (atsOf rows).getD j d = (offOf rows j : Int) + 1 := by
  unfold atsOf
  rw [List.getD_eq_getElem?_getD, List.getElem?_map, List.getElem?_range h]
  rfl
theorem ats_len (rows : List (List V)) : (atsOf rows).length = rows.length := by unfold atsOf; rw [List.length_map, List.length_range]
theorem ap2_step (d : ApD) (hd : ApOk d) (i : Nat) (K : SS → Prop) (Q : Exit → SS → Prop) (hi : i ≤ d.rows.length)
    (hK : i < d.rows.length → K (stC d (splice d.rows.flatten (offOf d.rows d.k) d.list) (atsOf d.rows) (i + 1))) (h1 : Q (.exit 2) (stNo 181)) :
    sx Try.prog (gam gLaw) noLam (lp Try.f4 1) 2 (stC d (splice d.rows.flatten (offOf d.rows d.k) d.list) (atsOf d.rows) i) (thenQ (cq 0 [0, 2, 7, 8, 12, 13] K) (cQE 0 [] [6] Q)) := by
  obtain ⟨rows, which, list, k⟩ := d
  obtain ⟨hn, hr, hk, hl⟩ := hd
  dsimp only at *
  rw [vc_ap2]
  dsimp only
  intro hm
  refine cond_of (fun hc0 => ?_) (fun _ => h1)
  have hc : i < rows.length := by simpa using hc0
  clear hc0
  have ei : IntKind.i64.wrap ((i : Int) + 1) = ((i + 1 : Nat) : Int) := by rw [w64 (x := (i : Int) + 1) (by omega) (by omega)]; rfl
  rw [getD_at hk] at hl
  have hok := off_le rows k hk
  have hoi := off_le rows i hc
  have htot : rows.flatten.length ≤ 800 := by have := flat_le rows hr rows.length (Nat.le_refl _); rw [off_all] at this; omega
  have hzl : (splice rows.flatten (offOf rows k) list).length = rows.flatten.length := splice_len (by omega)
  have hat : (atsOf rows).getD i tI.dft = (offOf rows i : Int) + 1 := ats_get rows i hc _
  have hgi : rows.getD i tR.dft = rows[i] := getD_at hc _
  have hri : rows[i].length ≤ 20 := hr _ (List.getElem_mem _)
  have e0 : ((offOf rows i : Int) + 1 - 1).toNat = offOf rows i := by omega
  have e1 : vw ([] : List V) 0 0 ++ list = list := by simp [vw]
  have hh : has (splice rows.flatten (offOf rows k) list).length ((offOf rows i : Int) + 1) (rows[i].length : Int) = true := by
    rw [hzl]; simp only [has, Bool.and_eq_true, decide_eq_true_eq]; omega
  have hvl : (vw (splice rows.flatten (offOf rows k) list) (offOf rows i) rows[i].length).length = rows[i].length := vw_len (by rw [hzl]; omega)
  have hvw : vw (vw (splice rows.flatten (offOf rows k) list) (offOf rows i) rows[i].length) 0 rows[i].length = vw (splice rows.flatten (offOf rows k) list) (offOf rows i) rows[i].length := by
    have := vw_all (vw (splice rows.flatten (offOf rows k) list) (offOf rows i) rows[i].length)
    rw [hvl] at this
    exact this
  have hal := ats_len rows
  have hi1 : i64 ((offOf rows i : Int) + 1) := by constructor <;> omega
  have hi2 : i64 (rows[i].length : Int) := by constructor <;> omega
  have hz6 : (splice rows.flatten (offOf rows k) list).length ≤ 65536 := by rw [hzl]; omega
  have hll : list.length ≤ rows[k].length := hl
  have hKK := hK hc
  by_cases hik : i = k
  · subst hik
    have hcut : cutL rows[i] (some (list.length : Int)) none = rows[i].drop list.length := by simp [cutL]
    have hW : vw (splice rows.flatten (offOf rows i) list) (offOf rows i) rows[i].length = list ++ rows[i].drop list.length := by
      rw [vw_splice_in _ _ _ _ (by omega) hll, vw_flat rows i hc]
    have hWl : (list ++ rows[i].drop list.length).length = rows[i].length := by rw [List.length_append, List.length_drop]; omega
    have hb : ((i : Int) == (i : Int)) = true := by simp
    simp only [Int.toNat_natCast, Nat.zero_add, hat, hgi, e0, e1, hh, ei, vw_all, hvl, hvw, hcut, hWl, hb, hW, decide_true, Bool.not_true, Bool.or_false, cond_true, cond_false]
    repeat' (first | (refine And.intro ?_ ?_) | (refine cond_of (fun _ => ?_) (fun _ => ?_)) | (intro _))
    all_goals first | omega | assumption | contradiction | trivial | (simp only [decide_eq_true_eq] at *; omega)
  · have hb : ((i : Int) == (k : Int)) = false := by simp; omega
    have hW : vw (splice rows.flatten (offOf rows k) list) (offOf rows i) rows[i].length = rows[i] := by
      rw [vw_splice_out _ _ _ _ _ (by omega), vw_flat rows i hc]
      rcases Nat.lt_or_ge i k with h | h
      · left; rw [← off_succ rows i hc]; exact off_mono rows _ _ (by omega) (by omega)
      · right
        have h1 := off_succ rows k hk
        have h2 := off_mono rows i (k + 1) (by omega) (by omega)
        omega
    simp only [Int.toNat_natCast, Nat.zero_add, hat, hgi, e0, e1, hh, ei, vw_all, hvl, hvw, hb, hW, decide_true, Bool.not_true, Bool.or_false, cond_true, cond_false]
    repeat' (first | (refine And.intro ?_ ?_) | (refine cond_of (fun _ => ?_) (fun _ => ?_)) | (intro _))
    all_goals first | omega | assumption | contradiction | trivial | (simp only [decide_eq_true_eq] at *; omega)
noncomputable def atsP (rows : List (List V)) (i : Nat) : List Int := (List.range rows.length).map fun j => if j < i then (offOf rows j : Int) + 1 else 0
theorem atsP_len (rows : List (List V)) (i : Nat) : (atsP rows i).length = rows.length := by unfold atsP; rw [List.length_map, List.length_range]
theorem atsP_zero (rows : List (List V)) : atsP rows 0 = List.replicate rows.length 0 := by
  unfold atsP
  apply List.ext_getElem?
  intro j
  by_cases h : j < rows.length
  · rw [List.getElem?_map, List.getElem?_range h, List.getElem?_replicate, if_pos h]; rfl
  · rw [List.getElem?_eq_none (by simp; omega), List.getElem?_eq_none (by simp; omega)]
theorem atsP_all (rows : List (List V)) : atsP rows rows.length = atsOf rows := by
  unfold atsP atsOf
  apply List.map_congr_left
  intro j hj
  rw [if_pos (List.mem_range.1 hj)]
theorem atsP_set (rows : List (List V)) (i : Nat) (h : i < rows.length) : (atsP rows i).set i ((offOf rows i : Int) + 1) = atsP rows (i + 1) := by
  apply List.ext_getElem?
  intro j
  rw [List.getElem?_set]
  unfold atsP
  by_cases hj : j < rows.length
  · rw [List.getElem?_map, List.getElem?_map, List.getElem?_range hj, List.length_map, List.length_range]
    by_cases hij : i = j
    · subst hij; rw [if_pos rfl, if_pos h]; simp
    · rw [if_neg hij]
      simp only [Option.map_some, Option.some.injEq]
      by_cases h2 : j < i
      · rw [if_pos h2, if_pos (by omega)]
      · rw [if_neg h2, if_neg (by omega)]
  · rw [if_neg (by omega), List.getElem?_eq_none (by simp; omega), List.getElem?_eq_none (by simp; omega)]
theorem atsP_get (rows : List (List V)) (i j : Nat) (hj : j < rows.length) (hji : j < i) (d : Int) : (atsP rows i).getD j d = (offOf rows j : Int) + 1 := by
  unfold atsP
  rw [List.getD_eq_getElem?_getD, List.getElem?_map, List.getElem?_range hj]
  simp [hji]
theorem ap0_step (d : ApD) (hn : d.rows.length ≤ 40) (i : Nat) (K : SS → Prop) (Q : Exit → SS → Prop) (hi : i ≤ d.rows.length) (hr : ∀ j (h : j < d.rows.length), j < i → d.rows[j].length ≤ 20)
    (hK : ∀ (h : i < d.rows.length), d.rows[i].length ≤ 20 → K (stA d (d.rows.take (i + 1)).flatten (atsP d.rows (i + 1)) (i + 1))) (h1 : i = d.rows.length → Q (.exit 0) (stB d (d.rows.take i).flatten (atsP d.rows i))) (h2 : Q .ret (stRes 181 6 (.c (.bool true)))) :
    sx Try.prog (gam gLaw) noLam (lp Try.f4 0) 0 (stA d (d.rows.take i).flatten (atsP d.rows i) i) (thenQ (cq 0 [0, 1, 2, 7, 8, 9] K) (cQE 0 [0, 1, 2, 7, 8] [6] Q)) := by
  obtain ⟨rows, which, list, k⟩ := d
  dsimp only at *
  rw [vc_ap0]
  dsimp only
  intro hm
  refine cond_of (fun hc0 => ?_) (fun hc0 => h1 (by simp at hc0; omega))
  have hc : i < rows.length := by simpa using hc0
  clear hc0
  have ei : IntKind.i64.wrap ((i : Int) + 1) = ((i + 1 : Nat) : Int) := by rw [w64 (x := (i : Int) + 1) (by omega) (by omega)]; rfl
  have hgi : rows.getD i tR.dft = rows[i] := getD_at hc _
  have hal := atsP_len rows i
  have hoff : ((rows.take i).flatten).length = offOf rows i := rfl
  have hle : ∀ j, j ≤ i → offOf rows j ≤ 20 * j := by
    intro j
    induction j with
    | zero => intro _; simp [offOf]
    | succ j ih =>
      intro hj
      rw [off_succ rows j (by omega)]
      have := ih (by omega)
      have := hr j (by omega) (by omega)
      omega
  have hlei := hle i (Nat.le_refl _)
  simp only [Int.toNat_natCast, Nat.zero_add, hgi, hoff, ei]
  refine ⟨by omega, by omega, hc, cond_of (fun _ => h2) (fun hg => ?_)⟩
  simp only [Bool.or_eq_false_iff, decide_eq_false_iff_not] at hg
  have hri : rows[i].length ≤ 20 := by omega
  refine ⟨by omega, by omega, hc, ⟨trivial, by omega⟩, fun h => by omega, fun _ => ?_⟩
  have key : (decide ((i : Int) > 0) = true → 0 ≤ IntKind.i64.wrap ((i : Int) - 1) ∧ IntKind.i64.wrap ((i : Int) - 1) < (i : Int)) := by
    intro h
    have h : (i : Int) > 0 := by simpa using h
    have e : IntKind.i64.wrap ((i : Int) - 1) = (i : Int) - 1 := w64 (by omega) (by omega)
    rw [e]; omega
  refine ⟨fun h => ?_, fun h => ?_, fun h => ?_, fun h => ?_, ?_⟩
  · have := key h; exact ⟨this.1, by omega, trivial⟩
  · have := key h; exact ⟨by omega, trivial⟩
  · have := key h; exact ⟨this.1, by omega, trivial⟩
  · have := key h; exact ⟨by omega, trivial⟩
  · have hp : (decide ((i : Int) > 0) && ((offOf rows i : Int) + 1 != IntKind.i64.wrap ((atsP rows i).getD (IntKind.i64.wrap ((i : Int) - 1)).toNat tI.dft + (((rows.getD (IntKind.i64.wrap ((i : Int) - 1)).toNat tR.dft).length : Nat) : Int)))) = false := by
      by_cases h0 : i = 0
      · subst h0; rfl
      · have e : IntKind.i64.wrap ((i : Int) - 1) = ((i - 1 : Nat) : Int) := by
          have : IntKind.i64.wrap ((i : Int) - 1) = (i : Int) - 1 := w64 (by omega) (by omega)
          rw [this]; omega
        rw [e, Int.toNat_natCast, getD_at (show i - 1 < rows.length by omega)]
        rw [show (atsP rows i).getD (i - 1) tI.dft = (offOf rows (i - 1) : Int) + 1 from atsP_get rows i (i - 1) (by omega) (by omega) _]
        have h3 := off_succ rows (i - 1) (by omega)
        rw [show i - 1 + 1 = i by omega] at h3
        have e2 : IntKind.i64.wrap ((offOf rows (i - 1) : Int) + 1 + ((rows[i - 1].length : Nat) : Int)) = (offOf rows i : Int) + 1 := by
          rw [w64 (by omega) (by omega)]; omega
        rw [e2]
        simp
    rw [hp]
    simp only [bne_self_eq_false, Bool.or_self, cond_false]
    refine ⟨by omega, by omega, by omega, ?_⟩
    have hKK := hK hc hri
    have e5 : (rows.take (i + 1)).flatten = (rows.take i).flatten ++ rows[i] := by rw [List.take_succ_eq_append_getElem hc, List.flatten_append]; simp
    have e6 := atsP_set rows i hc
    have e7 := atsP_len rows (i + 1)
    rw [e6]
    unfold stA at hKK
    rw [e5] at hKK
    rw [hal]
    rw [e7] at hKK
    exact hKK
theorem ap0_loop (d : ApD) (hn : d.rows.length ≤ 40) (Q : Exit → SS → Prop) (h1 : (∀ r ∈ d.rows, r.length ≤ 20) → Q (.exit 0) (stB d d.rows.flatten (atsOf d.rows))) (h2 : Q .ret (stRes 181 6 (.c (.bool true)))) :
    W 0 Try.prog (.loop (lp Try.f4 0)) (stA d [] (List.replicate d.rows.length (0 : Int)) 0) Q := by
  have := W_loopE (N := 0) (P := Try.prog) (body := lp Try.f4 0) (Q := Q) (fun i : Nat => stA d (d.rows.take i).flatten (atsP d.rows i) i) (fun i => i ≤ d.rows.length ∧ ∀ j (h : j < d.rows.length), j < i → d.rows[j].length ≤ 20) (fun i => d.rows.length - i) [0, 1, 2, 7, 8, 9] [0, 1, 2, 7, 8] [6] (fun i ⟨hi, hr⟩ => by
    refine sx_ok (Λ := noLam) gokLaw _ 0 _ _ noLam_ok ?_
    refine ap0_step d hn i _ _ hi hr (fun h hl => ⟨i + 1, rfl, ⟨h, fun j hj hji => ?_⟩, by omega⟩) (fun e => ?_) h2
    · by_cases hh : j < i
      · exact hr j hj hh
      · have : j = i := by omega
        subst this; exact hl
    · subst e
      rw [List.take_length, atsP_all]
      refine h1 (fun r hrm => ?_)
      obtain ⟨j, hj, rfl⟩ := List.mem_iff_getElem.1 hrm
      exact hr j hj hj) 0 ⟨by omega, fun j hj hj0 => by omega⟩
  rw [atsP_zero, List.take_zero] at this
  exact this
theorem ap2_loop (d : ApD) (hd : ApOk d) (Q : Exit → SS → Prop) (h1 : Q (.exit 2) (stNo 181)) :
    W 0 Try.prog (.loop (lp Try.f4 1)) (stC d (splice d.rows.flatten (offOf d.rows d.k) d.list) (atsOf d.rows) 0) Q :=
  W_loopE (N := 0) (P := Try.prog) (body := lp Try.f4 1) (Q := Q) (fun i : Nat => stC d (splice d.rows.flatten (offOf d.rows d.k) d.list) (atsOf d.rows) i) (fun i => i ≤ d.rows.length) (fun i => d.rows.length - i) [0, 2, 7, 8, 12, 13] [] [6] (fun i hi => by
    refine sx_ok (Λ := noLam) gokLaw _ 2 _ _ noLam_ok ?_
    exact ap2_step d hd i _ _ hi (fun h => ⟨i + 1, rfl, h, by omega⟩) h1) 0 (Nat.zero_le _)
theorem w64u {x : Int} (h1 : 0 ≤ x) (h2 : x < 18446744073709551616) : IntKind.u64.wrap x = x := by rw [IntKind.wrap_u64]; omega
/-- What a whole number leaves over, seen without a sign. -/
noncomputable def remU (x : Int) (n : Nat) : Nat := (IntKind.i64.wrap ((IntKind.u64.wrap x).tmod (IntKind.u64.wrap (n : Int)))).toNat
theorem remU_eq (x : Int) (n : Nat) (h0 : 0 < n) (h1 : n ≤ 1000000) : IntKind.i64.wrap ((IntKind.u64.wrap x).tmod (IntKind.u64.wrap (n : Int))) = (remU x n : Int) ∧ remU x n < n := by
  unfold remU
  rw [w64u (x := (n : Int)) (by omega) (by omega)]
  have h2 : 0 ≤ IntKind.u64.wrap x := by rw [IntKind.wrap_u64]; omega
  have h3 : 0 ≤ (IntKind.u64.wrap x).tmod (n : Int) := Int.tmod_nonneg _ h2
  have h4 : (IntKind.u64.wrap x).tmod (n : Int) < (n : Int) := Int.tmod_lt_of_pos _ (by omega)
  rw [w64 (by omega) (by omega)]
  omega
theorem apart_ok (rows : List (List V)) (which : Int) (list : List V) (hw1 : wfT (.row tR) rows) : FSpec Try.prog 4 [.c (.row tR rows), ti which, .c (.row tV list)] [] fun r h' => r = .p (.c (.bool true)) := by
  refine spec_body (Λ := lam [(0, ap0_l), (2, ap2_l)]) gokLaw Try.func4 rfl ?_ ?_
  · show LOK 0 Try.prog (lam [(0, ap0_l), (2, ap2_l)]) [(0, lp Try.f4 0), (2, lp Try.f4 1)]
    exact lokl ⟨lam_ok fun d Q hl ⟨a1, a2⟩ => ap0_loop d hl Q a2 a1, lam_ok fun d Q hd a => ap2_loop d hd Q a, trivial⟩
  · show body Try.prog (gam gLaw) (lam [(0, ap0_l), (2, ap2_l)]) Try.f4 [.c (.row tR rows), ti which, .c (.row tV list)] [] _
    rw [vc_ap]
    intro hm
    refine cond_of (fun _ => rfl) (fun h40 => cond_of (fun _ => rfl) (fun hg _ => ?_))
    simp only [decide_eq_false_iff_not] at h40
    simp only [Bool.or_eq_false_iff, decide_eq_false_iff_not] at hg
    refine ⟨by omega, by omega, by omega, ⟨rows, which, list, 0⟩, ?_, by dsimp only; omega, rfl, fun hr _ => ?_⟩
    · simp only [Int.toNat_natCast, List.length_replicate]; rfl
    · dsimp only at hr ⊢
      refine cond_of (fun h0 => ⟨rfl, ?_⟩) (fun h0 => ?_)
      · have h0 : rows.length = 0 := by simpa using h0
        have : rows = [] := List.length_eq_zero_iff.1 h0
        subst this; rfl
      · have h0 : rows.length ≠ 0 := by simpa using h0
        intro _
        obtain ⟨e1, hk⟩ := remU_eq which rows.length (by omega) (by omega)
        refine ⟨by rw [w64u (by omega) (by omega)]; omega, fun _ => ?_⟩
        rw [e1]
        generalize remU which rows.length = k at hk ⊢
        have hal := ats_len rows
        have hgk : rows.getD k tR.dft = rows[k] := getD_at hk _
        have hat : (atsOf rows).getD k tI.dft = (offOf rows k : Int) + 1 := ats_get rows k hk _
        have hok := off_le rows k hk
        have htot : rows.flatten.length ≤ 800 := by have := flat_le rows hr rows.length (Nat.le_refl _); rw [off_all] at this; omega
        simp only [Int.toNat_natCast, Nat.zero_add, hgk, hat]
        refine ⟨by omega, by omega, hk, fun _ => cond_of (fun _ => trivial) (fun hl => ?_)⟩
        simp only [decide_eq_false_iff_not] at hl
        have hh : has rows.flatten.length ((offOf rows k : Int) + 1) (list.length : Int) = true := by
          simp only [has, Bool.and_eq_true, decide_eq_true_eq]; omega
        refine ⟨by omega, by omega, by omega, ⟨trivial, by omega, by constructor <;> omega⟩, fun hf => (by rw [hh] at hf; cases hf), fun _ => ⟨⟨rows, which, list, k⟩, ?_, ⟨by dsimp only; omega, hr, hk, ?_⟩, trivial⟩⟩
        · have e2 : ((offOf rows k : Int) + 1 - 1).toNat = offOf rows k := by omega
          rw [e2]; rfl
        · dsimp only
          rw [getD_at hk]; omega
end Go.Proofs.Ytpkmppfijhhpbaa.Ch
