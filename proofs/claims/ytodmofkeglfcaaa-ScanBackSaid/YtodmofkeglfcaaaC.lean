/- Chapter 02 (scan): bytes, words, operators, runs, Cut, proved; the library's functions over the abstract machine. No condition. -/
import Derived.Test.YtodmofkeglfcaaaBV
namespace Go.Proofs.Ytodmofkeglfcaaa.Ch
open Go Go.Proofs Go.Shelf Go.Proofs.Ytodmofkeglfcaaa.Sx
set_option linter.unusedVariables false
set_option linter.unusedSimpArgs false

/-! ### bytes -/
theorem let_ok : ∀ args h Q, let_t args h Q → FSpec Try.prog 29 args h Q := trH_ok fun ((b, _) : Int × Unit) _ Q h => by
  refine spec_body gok0 Try.func29 rfl noLam_ok ?_
  show body Try.prog (gam []) noLam Try.f29 [.c (.int .u8 b)] [] _
  rw [vc_let]
  exact h
theorem dig_ok : ∀ args h Q, dig_t args h Q → FSpec Try.prog 39 args h Q := trH_ok fun ((b, _) : Int × Unit) _ Q h => by
  refine spec_body gok0 Try.func39 rfl noLam_ok ?_
  show body Try.prog (gam []) noLam Try.f39 [.c (.int .u8 b)] [] _
  rw [vc_dig]
  exact h
theorem part_ok : ∀ args h Q, part_t args h Q → FSpec Try.prog 31 args h Q := trH_ok fun ((b, _) : Int × Unit) _ Q h => by
  refine spec_body (Γ := gam [(29, [], let_t), (39, [], dig_t)]) (gam_ok ⟨let_ok, dig_ok, trivial⟩) Try.func31 rfl noLam_ok ?_
  show body Try.prog (gam [(29, [], let_t), (39, [], dig_t)]) noLam Try.f31 [.c (.int .u8 b)] [] _
  rw [vc_part]
  dsimp only at h
  unfold partB at h
  refine cond_of (fun hc => ?_) (fun hc => ?_)
  · rw [hc] at h; exact h
  · rw [hc] at h; exact h
theorem nl_ok : ∀ args h Q, nl_t args h Q → FSpec Try.prog 41 args h Q := trH_ok fun ((b, _) : Int × Unit) _ Q h => by
  refine spec_body gok0 Try.func41 rfl noLam_ok ?_
  show body Try.prog (gam []) noLam Try.f41 [.c (.int .u8 b)] [] _
  rw [vc_nl]
  exact h
theorem unes_ok : ∀ args h Q, unes_t args h Q → FSpec Try.prog 51 args h Q := trH_ok fun ((b, _) : Int × Unit) _ Q h => by
  refine spec_body gok0 Try.func51 rfl noLam_ok ?_
  show body Try.prog (gam []) noLam Try.f51 [.c (.int .u8 b)] [] _
  rw [vc_unes]
  dsimp only at h
  unfold unesV at h
  refine cond_of (fun h1 => ?_) (fun h1 => cond_of (fun h2 => ?_) (fun h2 => cond_of (fun h3 => ?_) (fun h3 => cond_of (fun h4 => ?_) (fun h4 => ?_))))
  · have h1 : b = 110 := by simpa using h1
    rw [if_pos h1] at h; exact h
  all_goals
    have h1 : b ≠ 110 := by simpa using h1
    rw [if_neg h1] at h
  · have h2 : b = 116 := by simpa using h2
    rw [if_pos h2] at h; exact h
  all_goals
    have h2 : b ≠ 116 := by simpa using h2
    rw [if_neg h2] at h
  · have h3 : b = 34 := by simpa using h3
    rw [if_pos h3] at h; rw [h3]; exact h
  all_goals
    have h3 : b ≠ 34 := by simpa using h3
    rw [if_neg h3] at h
  · have h4 : b = 92 := by simpa using h4
    rw [if_pos h4] at h; rw [h4]; exact h
  · have h4 : b ≠ 92 := by simpa using h4
    rw [if_neg h4] at h; exact h
/-! ### texts and their bytes -/
theorem u8_int (b : UInt8) : UInt8.ofNat ((b.toNat : Int)).toNat = b := by
  rw [Int.toNat_natCast]
  exact UInt8.ofNat_toNat
theorem strOf_bytesOf (s : ByteArray) : strOf (bytesOf s) = s := by
  unfold strOf bytesOf
  rw [List.map_map]
  have : (fun n : Int => UInt8.ofNat n.toNat) ∘ (fun b : UInt8 => (b.toNat : Int)) = id := funext fun b => u8_int b
  rw [this, List.map_id]
theorem bytesOf_inj {s t : ByteArray} (h : bytesOf s = bytesOf t) : s = t := by rw [← strOf_bytesOf s, h, strOf_bytesOf]
theorem bt_get {s : ByteArray} {i : Nat} (h : i < s.size) : bt s (i : Int) = (bytesOf s).getD i 0 := by
  have e : bt s (i : Int) = ((s[i]'h).toNat : Int) := by
    unfold bt
    simp only [Int.toNat_natCast]
    rw [dif_pos h]
  have h2 : i < s.data.toList.length := by rw [Array.length_toList]; exact h
  rw [e]
  unfold bytesOf
  rw [List.getD_eq_getElem?_getD, List.getElem?_map, List.getElem?_eq_getElem h2]
  rfl
theorem bytesOf_extract (s : ByteArray) (a b : Nat) : bytesOf (s.extract a b) = ((bytesOf s).drop a).take (b - a) := by
  unfold bytesOf
  rw [ByteArray.data_extract, Array.toList_extract, List.extract_eq_take_drop, List.map_take, List.map_drop]
theorem bytesOf_append (s t : ByteArray) : bytesOf (s ++ t) = bytesOf s ++ bytesOf t := by
  unfold bytesOf
  rw [ByteArray.data_append, Array.toList_append, List.map_append]
theorem byte_range {s : ByteArray} {b : Int} (h : b ∈ bytesOf s) : 0 ≤ b ∧ b ≤ 255 := by
  unfold bytesOf at h
  obtain ⟨x, _, rfl⟩ := List.mem_map.1 h
  have := x.toNat_lt
  omega
theorem bytesOf_strOf {l : List Int} (h : ∀ b ∈ l, 0 ≤ b ∧ b ≤ 255) : bytesOf (strOf l) = l := by
  unfold bytesOf strOf
  rw [List.map_map]
  conv => rhs; rw [← List.map_id l]
  refine List.map_congr_left fun b hb => ?_
  obtain ⟨h0, h1⟩ := h b hb
  show ((UInt8.ofNat b.toNat).toNat : Int) = b
  rw [UInt8.toNat_ofNat_of_lt' (by show b.toNat < 256; omega)]
  omega
/-! ### runs -/
theorem gokRun : GOK Try.prog (gam gRun) := gam_ok ⟨part_ok, dig_ok, nl_ok, trivial⟩
theorem run_at (p : Int → Bool) : ∀ (l : List Int) (i : Nat), (∀ j, j < i → p (l.getD j 0) = true) → i ≤ l.length → (i < l.length → p (l.getD i 0) = false) → runV p l = i
  | [], 0, _, _, _ => rfl
  | [], i + 1, _, h, _ => by simp at h
  | b :: l, 0, _, _, h => by
    have := h (by simp)
    unfold runV
    rw [List.takeWhile_cons]
    have e : p b = false := this
    rw [e]; rfl
  | b :: l, i + 1, h1, h2, h3 => by
    have e : p b = true := h1 0 (by omega)
    have ih := run_at p l i (fun j hj => h1 (j + 1) (by omega)) (by simpa using h2) (fun h => h3 (by simpa using h))
    unfold runV at ih ⊢
    rw [List.takeWhile_cons, e]
    simp only [if_true, List.length_cons, ih]
theorem run_step (f : FuncId) (p : Int → Bool) (hvc : ∀ (s : ByteArray) (i : Nat) (K : SS → Prop) (Q : Exit → SS → Prop), (sx Try.prog (gam gRun) noLam (lp Try.f30 0) 0 (stRun f s i) (thenQ (cq 0 [0, 1, 5] K) (cQE 0 [5] [4] Q))) =
      (s.size ≤ maxI → (decide ((i : Int) < (s.size : Int)) = true → 0 ≤ (i : Int) ∧ (i : Int) < (s.size : Int) ∧ True) ∧ bif decide ((i : Int) < (s.size : Int)) then bif true && p (bt s (i : Int)) then K { nt := 20, fr := [(0, .p (.c (.str s))), (1, .p (.c (.func f))), (5, .p (.c (.int .i64 (IntKind.i64.wrap ((i : Int) + 1)))))], hp := [] } else Q (.exit 0) { nt := 20, fr := [(5, .p (ti i))], hp := [] } else Q (.exit 0) { nt := 20, fr := [(5, .p (ti i))], hp := [] }))
    (s : ByteArray) (Q : Exit → SS → Prop) (hq : Q (.exit 0) (⟨20, [(5, .p (ti (runV p (bytesOf s))))], []⟩ : SS)) : W 0 Try.prog (.loop (lp Try.f30 0)) (stRun f s 0) Q := by
  refine W_all (stRun f s) s.size (fun i => p ((bytesOf s).getD i 0) = true) [0, 1, 5] [5] [4] (fun i hi ho K hK => ?_)
  refine sx_ok (Λ := noLam) gokRun _ 0 _ _ noLam_ok ?_
  rw [hvc]
  intro hm
  simp only [maxI] at hm
  have hi0 : (0 : Int) ≤ (i : Int) := by omega
  refine ⟨fun hd => ⟨hi0, of_decide_eq_true hd, trivial⟩, cond_of (fun hc => ?_) (fun hc => ?_)⟩
  · have hc : i < s.size := by have := of_decide_eq_true hc; omega
    have ei : IntKind.i64.wrap ((i : Int) + 1) = ((i + 1 : Nat) : Int) := w64n (n := i + 1) (by omega)
    rw [ei, bt_get hc, Bool.true_and]
    refine cond_of (fun hb => hK hc hb) (fun hb => ?_)
    rw [run_at p (bytesOf s) i ho (by rw [bytesOf_len]; omega) (fun _ => hb)] at hq
    exact hq
  · have hc : ¬ i < s.size := by have := of_decide_eq_false hc; omega
    rw [run_at p (bytesOf s) i ho (by rw [bytesOf_len]; omega) (fun h => absurd (by rw [bytesOf_len] at h; exact h) hc)] at hq
    exact hq
theorem sat_str {s x : ByteArray} {r : List (Nat × SV)} {n : Nat} {h : List HB} {r' : List (Nat × SV)} {n' : Nat} {h' : List HB} (e : (⟨n, (0, .p (.c (.str s))) :: r, h⟩ : SS) = ⟨n', (0, .p (.c (.str x))) :: r', h'⟩) : s = x := by
  injection e with _ e2 _
  injection e2 with e3 _
  injection e3 with _ e4
  injection e4 with e5
  injection e5 with e6
  injection e6
theorem run_ok : ∀ args h Q, run_t args h Q → FSpec Try.prog 30 args h Q := by
  intro args h Q hh
  unfold run_t at hh
  split at hh
  · rename_i s g
    cases h1 : Nat.beq g 31 with
    | true =>
      rw [h1] at hh
      obtain rfl := Nat.eq_of_beq_eq_true h1
      refine spec_body (Λ := lam [(0, run31_l)]) gokRun Try.func30 rfl (lokl ⟨lam_ok (fun s Q _ ho => run_step 31 partB vc_run31 s Q ho), trivial⟩) ?_
      show body Try.prog (gam gRun) (lam [(0, run31_l)]) Try.f30 [.c (.str s), .c (.func 31)] [] _
      rw [vc_runb31]
      exact ⟨s, rfl, trivial, hh⟩
    | false =>
      rw [h1] at hh
      cases h2 : Nat.beq g 39 with
      | true =>
        rw [h2] at hh
        obtain rfl := Nat.eq_of_beq_eq_true h2
        refine spec_body (Λ := lam [(0, run39_l)]) gokRun Try.func30 rfl (lokl ⟨lam_ok (fun s Q _ ho => run_step 39 digB vc_run39 s Q ho), trivial⟩) ?_
        show body Try.prog (gam gRun) (lam [(0, run39_l)]) Try.f30 [.c (.str s), .c (.func 39)] [] _
        rw [vc_runb39]
        exact ⟨s, rfl, trivial, hh⟩
      | false =>
        rw [h2] at hh
        cases h3 : Nat.beq g 41 with
        | true =>
          rw [h3] at hh
          obtain rfl := Nat.eq_of_beq_eq_true h3
          refine spec_body (Λ := lam [(0, run41_l)]) gokRun Try.func30 rfl (lokl ⟨lam_ok (fun s Q _ ho => run_step 41 notNl vc_run41 s Q ho), trivial⟩) ?_
          show body Try.prog (gam gRun) (lam [(0, run41_l)]) Try.f30 [.c (.str s), .c (.func 41)] [] _
          rw [vc_runb41]
          exact ⟨s, rfl, trivial, hh⟩
        | false => rw [h3] at hh; exact hh.elim
  · exact hh.elim
/-! ### words, operators -/
theorem chain {a b : Bool} {X : Prop} {Q : Bool → Prop} (hx : Q b → X) (h : Q (a || b)) : bif a then Q true else X := by
  cases a
  · exact hx h
  · exact h
theorem isword_ok : ∀ args h Q, isword_t args h Q → FSpec Try.prog 12 args h Q := trH_ok fun ((s, _) : ByteArray × Unit) _ Q h => by
  refine spec_body gok0 Try.func12 rfl noLam_ok ?_
  show body Try.prog (gam []) noLam Try.f12 [.c (.str s)] [] _
  rw [vc_isword]
  have h : (fun b => Q (.p (tb b)) []) (anyEq kwords s) := h
  unfold anyEq kwords at h
  simp only [List.any_cons, List.any_nil] at h
  iterate 23 refine chain (Q := fun b => Q (.p (tb b)) []) (fun h => ?_) h
  exact h
theorem isop_ok : ∀ args h Q, isop_t args h Q → FSpec Try.prog 14 args h Q := trH_ok fun ((s, _) : ByteArray × Unit) _ Q h => by
  refine spec_body gok0 Try.func14 rfl noLam_ok ?_
  show body Try.prog (gam []) noLam Try.f14 [.c (.str s)] [] _
  rw [vc_isop]
  have h : (fun b => Q (.p (tb b)) []) (anyEq opers s) := h
  unfold anyEq opers at h
  simp only [List.any_cons, List.any_nil] at h
  iterate 33 refine chain (Q := fun b => Q (.p (tb b)) []) (fun h => ?_) h
  exact h
end Go.Proofs.Ytodmofkeglfcaaa.Ch
