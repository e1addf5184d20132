/- Chapter 02 (scan): the library's functions, names, quoted texts, the scanner's small functions, proved. No condition. -/
import Derived.Test.YtodmofkeglfcaaaDV
import Derived.Shelf.Small.Strs
namespace Go.Proofs.Ytodmofkeglfcaaa.Ch
open Go Go.Proofs Go.Shelf Go.Proofs.Ytodmofkeglfcaaa.Sx
set_option linter.unusedVariables false
set_option linter.unusedSimpArgs false

/-! ### the library -/
theorem lib_spec {P : Program} {f : FuncId} {args : List PV} {Q : SV → List HB → Prop} (r : SV) (hq : Q r [])
    (hc : ∀ π ρ (w : World) (vs : List Value), (∀ g, gvar = some g → ∃ m, w.cell? ⟨g, 0, none⟩ = some (.int .i64 m)) → All2 (DenP π ρ) args vs → ∃ v, (∀ π ρ, DenS π ρ r v) ∧ Calls P f vs.toArray w fun e w' => e = .returned v ∧ ∃ n, w' = w.drewN n) : FSpec P f args [] Q := by
  intro π ρ w vs hs ha
  obtain ⟨v, h1, h2⟩ := hc π ρ w vs (fun g hg => by
    obtain ⟨us, m, h3, h4⟩ := hs.pers.2 g hg
    obtain ⟨e, fz, h5⟩ := hs.pers.1 g us h3
    exact ⟨m, by rw [cell_of_row w g 0 us e fz h5]; exact h4⟩) ha
  refine h2.mono ?_
  rintro e w' ⟨rfl, n, rfl⟩
  refine ⟨v, π, ρ, r, [], rfl, h1 _ _, ⟨fun k it hk => by simp at hk, fun k hk => by simp at hk, fun k k' g hk => by simp at hk, fun k g hk => by simp at hk, hs.pers, fun k hk => hs.out k hk⟩, ⟨rfl, rfl, rfl, Nat.le_refl _, fun _ _ _ => rfl, fun k g hk => by simp at hk, fun _ _ h => h, fun _ _ h => .inl h, fun k it κ hk => by simp at hk⟩, hq⟩
theorem cut_ok : ∀ args h Q, cut_t args h Q → FSpec Try.prog 42 args h Q := trH_ok fun ((s, p, _) : ByteArray × ByteArray × Unit) _ Q ⟨hs, h⟩ => by
  refine lib_spec _ h fun π ρ w vs hg ha => ?_
  match vs, ha with
  | [x, y], ha =>
    obtain ⟨rfl, h1⟩ := ha.1
    obtain ⟨rfl, h2⟩ := ha.2.1
    obtain ⟨m, hm⟩ := hg 0 rfl
    have hsz : (cutV s p).1.size ≤ s.size ∧ (cutV s p).2.1.size ≤ s.size := by
      unfold cutV Lib.cut
      split
      · constructor
        · show (List.take _ _).toArray.size ≤ _
          rw [List.size_toArray, List.length_take]; exact Nat.min_le_right _ _
        · show (List.drop _ _).toArray.size ≤ _
          rw [List.size_toArray, List.length_drop]; exact Nat.sub_le _ _
      · exact ⟨Nat.le_refl _, Nat.zero_le _⟩
    have h1 : s.size ≤ maxI := h1
    refine ⟨_, ?_, Any.strings_Cut lays145 s p m w hs hm⟩
    intro π ρ
    exact ⟨_, rfl, ⟨rfl, Nat.le_trans hsz.1 h1⟩, ⟨rfl, Nat.le_trans hsz.2 h1⟩, rfl, trivial⟩
theorem lays217 : Lays.n217 Try.prog ren := { lays145 with }
theorem idx50_ok : ∀ args h Q, idxB_t args h Q → FSpec Try.prog 50 args h Q := trH_ok fun ((s, b, _) : ByteArray × Int × Unit) _ Q h => by
  refine lib_spec _ h fun π ρ w vs hg ha => ?_
  match vs, ha with
  | [x, y], ha =>
    obtain ⟨rfl, h1⟩ := ha.1
    have h2 : y = .int .u8 b := ha.2.1
    subst h2
    refine ⟨.int .i64 (Lib.indexByte s.data.toList b.toNat.toUInt8), fun _ _ => rfl, ?_⟩
    exact (Any.stringslite_IndexByte lays217 s b w).mono fun e w' ⟨e1, e2⟩ => ⟨e1, 0, by rw [e2]; rfl⟩
theorem idx_ok : ∀ args h Q, idxB_t args h Q → FSpec Try.prog 43 args h Q := trH_ok fun ((s, b, _) : ByteArray × Int × Unit) _ Q h => by
  refine spec_body (Γ := gam [(50, [], idxB_t)]) (gam_ok ⟨idx50_ok, trivial⟩) Try.func43 rfl noLam_ok ?_
  show body Try.prog (gam [(50, [], idxB_t)]) noLam Try.f43 [.c (.str s), .c (.int .u8 b)] [] _
  rw [vc_idx43]
  exact h
theorem pre48_ok : ∀ args h Q, pre_t args h Q → FSpec Try.prog 48 args h Q := trH_ok fun ((s, p, _) : ByteArray × ByteArray × Unit) _ Q h => by
  refine spec_body gok0 Try.func48 rfl noLam_ok ?_
  show body Try.prog (gam []) noLam Try.f48 [.c (.str s), .c (.str p)] [] _
  rw [vc_pre48]
  intro _ _
  refine ⟨fun hc => ⟨by omega, by have := of_decide_eq_true hc; omega, trivial⟩, ?_⟩
  have e : (decide ((s.size : Int) ≥ (p.size : Int)) && strEq (s.extract 0 (hiN s.size (some (p.size : Int)))) p) = preV s p := by
    unfold preV
    congr 1
    simp only [ge_iff_le, Int.ofNat_le]
  rw [e]
  exact h
theorem pre_ok : ∀ args h Q, pre_t args h Q → FSpec Try.prog 40 args h Q := trH_ok fun ((s, p, _) : ByteArray × ByteArray × Unit) _ Q h => by
  refine spec_body (Γ := gam [(48, [], pre_t)]) (gam_ok ⟨pre48_ok, trivial⟩) Try.func40 rfl noLam_ok ?_
  show body Try.prog (gam [(48, [], pre_t)]) noLam Try.f40 [.c (.str s), .c (.str p)] [] _
  rw [vc_pre40]
  exact h
/-! ### quoted texts -/
theorem qB_len (b : Int) : (qB b).length ≤ 2 := by
  unfold qB
  repeat' split
  all_goals simp
theorem flat_len : ∀ l : List Int, (l.flatMap qB).length ≤ 2 * l.length
  | [] => by simp
  | b :: l => by
    rw [List.flatMap_cons, List.length_append, List.length_cons]
    have := flat_len l
    have := qB_len b
    omega
theorem flat_succ {l : List Int} {i : Nat} (h : i < l.length) : (34 :: (l.take (i + 1)).flatMap qB) = (34 :: (l.take i).flatMap qB) ++ qB (l.getD i 0) := by
  rw [List.take_add_one, List.getElem?_eq_getElem h, getD_at h, List.flatMap_append]
  simp
theorem quote_loop (s : ByteArray) (Q : Exit → SS → Prop) (hs : s.size ≤ 1000000) (hq : Q (.exit 0) (stQe s)) : W 0 Try.prog (.loop (lp Try.f18 0)) (stQ s 0) Q := by
  refine W_all (stQ s) s.size (fun _ => True) [3, 8, 9, 10] [3] [] (fun i hi ho K hK => ?_)
  refine sx_ok (Λ := noLam) gok0 _ 0 _ _ noLam_ok ?_
  rw [vc_quoteL]
  have hlen : (bytesOf s).length = s.size := bytesOf_len s
  have ei : ((i : Int)).toNat = i := rfl
  rw [ei, hlen]
  have hfl := flat_len ((bytesOf s).take i)
  rw [List.length_take] at hfl
  refine cond_of (fun hc => ?_) (fun hc => ?_)
  · have hc : i < s.size := by have := of_decide_eq_true hc; omega
    have ew : IntKind.i64.wrap ((i : Int) + 1) = ((i + 1 : Nat) : Int) := w64n (n := i + 1) (by omega)
    rw [ew]
    have hK := hK hc trivial
    have hb := flat_succ (l := bytesOf s) (i := i) (by omega)
    have key : ∀ X : List Int, qB ((bytesOf s).getD i 0) = X → K { nt := 49, fr := [(3, .p (.c (.view (.int .u8) 0 0 (vw (34 :: ((bytesOf s).take i).flatMap qB) 0 (34 :: ((bytesOf s).take i).flatMap qB).length ++ X).length))), (8, .p (.c (.row (.int .u8) (bytesOf s)))), (9, .p (.c (.int .i64 (s.size : Int)))), (10, .p (.c (.int .i64 ((i + 1 : Nat) : Int))))], hp := [.row 5 (.int .u8) (vw (34 :: ((bytesOf s).take i).flatMap qB) 0 (34 :: ((bytesOf s).take i).flatMap qB).length ++ X)] } := by
      intro X e
      subst e
      rw [vw_all, ← hb, ← hlen]
      exact hK
    have sz : ∀ X : List Int, X.length ≤ 2 → (vw (34 :: ((bytesOf s).take i).flatMap qB) 0 (34 :: ((bytesOf s).take i).flatMap qB).length ++ X).length * 1 ≤ 140737488355328 := by
      intro X hX
      rw [vw_all, List.length_append, List.length_cons]
      omega
    generalize hbb : (bytesOf s).getD i 0 = b at key ⊢
    refine ⟨by omega, by omega, by omega, cond_of (fun h1 => ?_) (fun h1 => cond_of (fun h2 => ?_) (fun h2 => cond_of (fun h3 => ?_) (fun h3 => cond_of (fun h4 => ?_) (fun h4 => ?_))))⟩
    · have h1 : b = 10 := by simpa using h1
      exact ⟨by omega, by omega, sz _ (by simp), key _ (by unfold qB; rw [if_pos h1])⟩
    all_goals have h1 : b ≠ 10 := by simpa using h1
    · have h2 : b = 9 := by simpa using h2
      exact ⟨by omega, by omega, sz _ (by simp), key _ (by unfold qB; rw [if_neg h1, if_pos h2])⟩
    all_goals have h2 : b ≠ 9 := by simpa using h2
    · have h3 : b = 34 ∨ b = 92 := by simpa using h3
      have e2 : vw [92, b] 0 2 = [92, b] := rfl
      rw [e2]
      exact ⟨by simp, by omega, sz _ (by simp), key _ (by unfold qB; rw [if_neg h1, if_neg h2, if_pos h3])⟩
    all_goals have h3 : ¬ (b = 34 ∨ b = 92) := by simpa using h3
    · have h4 : 32 ≤ b := by have := of_decide_eq_true h4; omega
      exact ⟨by simp, by omega, sz _ (by simp), key _ (by unfold qB; rw [if_neg h1, if_neg h2, if_neg h3, if_pos h4])⟩
    · have h4 : ¬ 32 ≤ b := by have := of_decide_eq_false h4; omega
      have := key [] (by unfold qB; rw [if_neg h1, if_neg h2, if_neg h3, if_neg h4])
      rw [vw_all, List.append_nil] at this
      exact this
  · have hc : ¬ i < s.size := by have := of_decide_eq_false hc; omega
    have e : (bytesOf s).take i = bytesOf s := List.take_of_length_le (by omega)
    rw [e]
    exact hq
theorem quote_ok : ∀ args h Q, quote_t args h Q → FSpec Try.prog 18 args h Q := trH_ok fun ((s, _) : ByteArray × Unit) _ Q ⟨hs, h⟩ => by
  have hs : s.size ≤ 1000000 := hs
  refine spec_body (Λ := lam [(0, quote_l)]) gok0 Try.func18 rfl (lokl ⟨lam_ok (fun s Q hs ho => quote_loop s Q hs ho), trivial⟩) ?_
  show body Try.prog (gam []) (lam [(0, quote_l)]) Try.f18 [.c (.str s)] [] _
  rw [vc_quote]
  intro _
  have hlen : (bytesOf s).length = s.size := bytesOf_len s
  have hfl := flat_len (bytesOf s)
  refine ⟨s, rfl, hs, by omega, by omega, ?_, by omega, ?_⟩
  · rw [vw_all, List.length_append, List.length_cons]; simp only [List.length_cons, List.length_nil]; omega
  · rw [vw_all, vw_all]; exact h
/-! ### names -/
theorem size_pos {s : ByteArray} (h : strEq s ⟨#[]⟩ = false) : 0 < s.size := by
  rcases Nat.eq_zero_or_pos s.size with h0 | h0
  · have : s = ⟨#[]⟩ := by
      cases s with | mk d => congr; exact Array.eq_empty_of_size_eq_zero h0
    rw [(strEq_iff s _).2 this] at h; cases h
  · exact h0
theorem isname_ok : ∀ args h Q, isname_t args h Q → FSpec Try.prog 16 args h Q := trH_ok fun ((s, _) : ByteArray × Unit) _ Q h => by
  refine spec_body (Γ := gam [(29, [], let_t), (30, [], run_t), (12, [], isword_t)]) (gam_ok ⟨let_ok, run_ok, isword_ok, trivial⟩) Try.func16 rfl noLam_ok ?_
  show body Try.prog (gam [(29, [], let_t), (30, [], run_t), (12, [], isword_t)]) noLam Try.f16 [.c (.str s)] [] _
  rw [vc_isname]
  have h : Q (.p (tb (nameV s))) [] := h
  refine ⟨fun hc => ⟨by omega, by have := size_pos (by simpa using hc); omega, trivial⟩, ?_⟩
  unfold nameV at h
  refine cond_of (fun h1 => ?_) (fun h1 => ?_)
  · have h0 := size_pos (s := s) (by simpa using h1)
    have e0 : bt s 0 = (bytesOf s).getD 0 0 := bt_get h0
    rw [e0]
    rw [h1] at h
    refine cond_of (fun h2 => ?_) (fun h2 => ?_)
    · rw [Bool.true_and] at h2
      rw [h2] at h
      refine cond_of (fun h3 => ?_) (fun h3 => ?_)
      · have h3 : runV partB (bytesOf s) = s.size := by
          have : ((runV partB (bytesOf s) : Nat) : Int) = (s.size : Int) := by simpa using h3
          omega
        rw [decide_eq_true h3] at h
        exact h
      · have h3 : ¬ runV partB (bytesOf s) = s.size := by
          intro e; rw [e] at h3; simp at h3
        rw [decide_eq_false h3] at h
        exact h
    · rw [Bool.true_and] at h2
      rw [h2] at h
      exact h
  · rw [h1] at h
    exact h
end Go.Proofs.Ytodmofkeglfcaaa.Ch
