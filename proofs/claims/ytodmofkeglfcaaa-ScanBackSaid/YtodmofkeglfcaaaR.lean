/- Chapter 02 (scan): the law ScanPlaces. No condition. -/
import Derived.Test.YtodmofkeglfcaaaQ
namespace Go.Proofs.Ytodmofkeglfcaaa.Ch
open Go Go.Proofs Go.Proofs.Ytodmofkeglfcaaa.Sx
set_option linter.unusedVariables false
set_option linter.unusedSimpArgs false

theorem lines_succ {l : List Int} {i : Nat} (h : i < l.length) : linesV (l.take (i + 1)) = linesV (l.take i) + (if l.getD i 0 = 10 then 1 else 0) := by
  unfold linesV
  rw [List.take_add_one, List.getElem?_eq_getElem h, List.count_append, getD_at h]
  by_cases hb : l[i] = 10
  · rw [if_pos hb]; simp [hb]; omega
  · rw [if_neg hb]
    simp [List.count_cons, hb]
theorem lines_step (f : Int) (s : ByteArray) (l : List Tok) (x : Int × Int × Int × Int) (Q : Exit → SS → Prop) (hs : s.size ≤ 1000000) (hq : Q (.exit 0) (⟨165, [(0, .p (ti f)), (1, .p (.c (.str s))), (5, .p (.c (.row tTok l))), (6, .p (.c (.ptr 0 0))), (7, .p (ti (linesV (bytesOf s))))], [fauH x]⟩ : SS)) : W 0 Try.prog (.loop (lp Try.f5 0)) (stPl0 f s l x 0) Q := by
  have hlen : (bytesOf s).length = s.size := bytesOf_len s
  refine W_all (stPl0 f s l x) s.size (fun _ => True) [0, 1, 5, 6, 7, 8] [0, 1, 5, 6, 7] [4] (fun i hi ho K hK => ?_)
  refine sx_ok (Λ := noLam) gok0 _ 0 _ _ noLam_ok ?_
  rw [vc_linesL]
  intro _
  refine cond_of (fun hc => ?_) (fun hc => ?_)
  · have hc : i < s.size := by have := of_decide_eq_true hc; omega
    have hK := hK hc trivial
    have ew : IntKind.i64.wrap ((i : Int) + 1) = ((i + 1 : Nat) : Int) := w64n (n := i + 1) (by omega)
    have es := lines_succ (l := bytesOf s) (i := i) (by omega)
    have hle : linesV ((bytesOf s).take i) ≤ 1000001 ∧ 1 ≤ linesV ((bytesOf s).take i) := by
      unfold linesV
      have : ((bytesOf s).take i).count 10 ≤ i := Nat.le_trans List.count_le_length (by rw [List.length_take]; omega)
      omega
    rw [ew, bt_get hc]
    refine ⟨by omega, by omega, cond_of (fun hb => ?_) (fun hb => ?_)⟩
    · have hb : (bytesOf s).getD i 0 = 10 := by simpa using hb
      rw [if_pos hb] at es
      rw [w64 (by omega) (by omega), ← es]
      exact hK
    · have hb : (bytesOf s).getD i 0 ≠ 10 := by simpa using hb
      rw [if_neg hb, Int.add_zero] at es
      rw [← es]
      exact hK
  · have hc : ¬ i < s.size := by have := of_decide_eq_false hc; omega
    have e : (bytesOf s).take i = bytesOf s := List.take_of_length_le (by omega)
    rw [e]
    exact hq
theorem places_step (f : Int) (s : ByteArray) (l : List Tok) (n : Int) (Q : Exit → SS → Prop) (hs : s.size ≤ 1000000 ∧ l.length ≤ 1000000 ∧ plAll f s.size n l) (hq : Q (.exit 2) (⟨165, [], []⟩ : SS)) : W 0 Try.prog (.loop (lp Try.f5 1)) (stPl2 f s l n 0) Q := by
  obtain ⟨hs, hl, h1, h2⟩ := hs
  refine W_all (stPl2 f s l n) l.length (fun _ => True) [0, 1, 5, 7, 9] [] [4] (fun i hi ho K hK => ?_)
  refine sx_ok (Λ := noLam) gok0 _ 2 _ _ noLam_ok ?_
  rw [vc_placesL]
  intro _
  rw [Int.toNat_natCast]
  refine cond_of (fun hc => ?_) (fun hc => hq)
  have hc : i < l.length := by have := of_decide_eq_true hc; omega
  have ew : IntKind.i64.wrap ((i : Int) + 1) = ((i + 1 : Nat) : Int) := w64n (n := i + 1) (by omega)
  have es : IntKind.i64.wrap ((s.size : Int) + 1) = (s.size : Int) + 1 := w64 (by omega) (by omega)
  have ez : (tTok.dft : Tok) = zT := rfl
  rw [ew, es, ez]
  obtain ⟨p1, p2, p3, p4, p5⟩ := h1 i hc
  refine ⟨by omega, by omega, hc, cond_of (fun g => ?_) (fun g => ?_)⟩
  · exfalso
    simp only [Bool.or_eq_true, bne_iff_ne, decide_eq_true_eq] at g
    omega
  have em : 1 ≤ i → IntKind.i64.wrap ((i : Int) - 1) = ((i - 1 : Nat) : Int) := fun h => by rw [w64 (by omega) (by omega)]; omega
  have pre : decide ((i : Int) > 0) = true → (0 : Int) ≤ IntKind.i64.wrap ((i : Int) - 1) ∧ IntKind.i64.wrap ((i : Int) - 1) < (l.length : Int) ∧ True := fun h => by
    have := of_decide_eq_true h
    rw [em (by omega)]
    exact ⟨by omega, by omega, trivial⟩
  have pre2 : decide ((i : Int) > 0) = true → (IntKind.i64.wrap ((i : Int) - 1)).toNat < l.length ∧ True := fun h => by
    have := of_decide_eq_true h
    rw [em (by omega), Int.toNat_natCast]
    exact ⟨by omega, trivial⟩
  refine ⟨pre, pre2, fun h => pre h.2, fun h => pre2 h.2, fun h => pre h.2.2, fun h => pre2 h.2.2, cond_of (fun g2 => ?_) (fun _ => hK hc trivial)⟩
  exfalso
  rw [Bool.and_eq_true] at g2
  have h0 : 1 ≤ i := by have := of_decide_eq_true g2.1; omega
  rw [em h0, Int.toNat_natCast] at g2
  have g3 := g2.2
  simp only [Bool.or_eq_true, Bool.and_eq_true, decide_eq_true_eq, beq_iff_eq] at g3
  have := h2 i h0 hc
  unfold plLe at this
  omega
theorem places_law (f : Int) (s : ByteArray) : FSpec Try.prog 5 [ti f, .c (.str s)] [] fun r h' => r = .p (.c (.bool true)) := by
  refine spec_body (Λ := lam [(0, lines_l), (2, places_l)]) gokLw Try.func5 rfl (lokl ⟨lam_ok (fun y Q hy hq => lines_step y.1 y.2.1 y.2.2.1 y.2.2.2 Q hy hq), lam_ok (fun y Q hy hq => places_step y.1 y.2.1 y.2.2.1 y.2.2.2 Q hy hq), trivial⟩) ?_
  show body Try.prog (gam gLw) (lam [(0, lines_l), (2, places_l)]) Try.f5 [ti f, .c (.str s)] [] _
  rw [vc_lplaces]
  intro _
  refine cond_of (fun _ => rfl) (fun hc => ?_)
  have hc : s.size ≤ 2048 := by have := of_decide_eq_false hc; omega
  refine ⟨(f, s, (tokensV f s).1, (tokensV f s).2), rfl, by show s.size ≤ 1000000; omega, ?_⟩
  dsimp only
  rcases places_all f s (by omega) with ⟨p, e, q1, q2, q3, q4, q5⟩ | ⟨l, e, l1, l2, l3, l4⟩
  · rw [e]
    refine cond_of (fun _ _ => ?_) (fun g => by simp at g)
    have ew : IntKind.i64.wrap ((s.size : Int) + 1) = (s.size : Int) + 1 := w64 (by omega) (by omega)
    rw [ew]
    show SV.p (PV.c (CV.bool (_ && _ && _ && _ && _ && _))) = _
    congr 3
    simp only [Bool.and_eq_true, decide_eq_true_eq, beq_iff_eq]
    exact ⟨⟨⟨⟨⟨rfl, q1⟩, q2⟩, q3⟩, q4⟩, q5⟩
  · rw [e]
    refine cond_of (fun g => by simp at g) (fun _ _ => ?_)
    dsimp only
    have ew : IntKind.i64.wrap ((l.length : Int) - 1) = ((l.length - 1 : Nat) : Int) := by rw [w64 (by omega) (by omega)]; omega
    rw [ew, Int.toNat_natCast]
    have ez : (tTok.dft : Tok) = zT := rfl
    rw [ez, l3]
    refine ⟨fun _ => ⟨by omega, by omega, trivial⟩, fun _ => ⟨by omega, trivial⟩, cond_of (fun g => ?_) (fun _ => ?_)⟩
    · exfalso
      simp only [Bool.or_eq_true, beq_iff_eq, bne_self_eq_false, Bool.false_eq_true, or_false] at g
      omega
    · exact ⟨(f, s, l, linesV (bytesOf s)), rfl, ⟨by show s.size ≤ 1000000; omega, by show l.length ≤ 1000000; omega, l4⟩, rfl⟩
end Go.Proofs.Ytodmofkeglfcaaa.Ch
