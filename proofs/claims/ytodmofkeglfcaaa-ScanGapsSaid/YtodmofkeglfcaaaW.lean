/- Chapter 02 (scan): the law ScanGaps. No condition. -/
import Derived.Test.YtodmofkeglfcaaaUV
import Derived.Test.YtodmofkeglfcaaaV
namespace Go.Proofs.Ytodmofkeglfcaaa.Ch
open Go Go.Proofs Go.Proofs.Ytodmofkeglfcaaa.Sx
set_option linter.unusedVariables false
set_option linter.unusedSimpArgs false

theorem gaps_step (s : ByteArray) (how : Int) (l : List Tok) (t : Tok) (n : Nat) (Q : Exit → SS → Prop) (h : s.size ≤ 1000000 ∧ n ≤ s.size ∧ (∀ i, i < n → linesV ((bytesOf s).take i) < t.2.2.2.1) ∧ t.2.2.2.1 ≤ linesV ((bytesOf s).take n)) (hq : Q (.exit 0) (⟨119, [(0, .p (.c (.str s))), (2, .p (ti how)), (7, .p (.c (.row tTok l))), (9, .p (.c (.ptr 0 0))), (10, .p (ti n))], [.cells 36 (toCV tTok t)]⟩ : SS)) : W 0 Try.prog (.loop (lp Try.f4 0)) (stGp s how l t 0) Q := by
  obtain ⟨hs, hn, h1, h2⟩ := h
  have hlen : (bytesOf s).length = s.size := bytesOf_len s
  refine W_all (stGp s how l t) n (fun _ => True) [0, 2, 7, 9, 10, 11] [0, 2, 7, 9, 10] [6] (fun i hi ho K hK => ?_)
  refine sx_ok (Λ := noLam) gok0 _ 0 _ _ noLam_ok ?_
  rw [vc_gapsL]
  rcases Nat.lt_or_ge i n with hlt | hge
  · have hK := hK hlt trivial
    have his : i < s.size := by omega
    rw [decide_eq_true (h1 i hlt), decide_eq_true (show ((i : Nat) : Int) < (s.size : Int) by omega)]
    have ew : IntKind.i64.wrap ((i : Int) + 1) = ((i + 1 : Nat) : Int) := w64n (n := i + 1) (by omega)
    have es := lines_step1 (l := bytesOf s) (i := i) (by omega)
    have hle : linesV ((bytesOf s).take i) ≤ 1000001 ∧ 1 ≤ linesV ((bytesOf s).take i) := by
      unfold linesV
      have : ((bytesOf s).take i).count 10 ≤ i := Nat.le_trans List.count_le_length (by rw [List.length_take]; omega)
      omega
    rw [ew, bt_get his]
    refine ⟨by omega, by omega, cond_of (fun hb => ?_) (fun hb => ?_)⟩
    · have hb : (bytesOf s).getD i 0 = 10 := by simpa using hb
      rw [if_pos hb] at es
      rw [w64 (by omega) (by omega), ← es]
      exact hK
    · have hb : (bytesOf s).getD i 0 ≠ 10 := by simpa using hb
      rw [if_neg hb, Int.add_zero] at es
      rw [← es]
      exact hK
  · obtain rfl : i = n := by omega
    rw [decide_eq_false (by omega), Bool.false_and]
    exact hq
theorem gaps_law (s : ByteArray) (at_ how : Int) : FSpec Try.prog 4 [.c (.str s), ti at_, ti how] [] fun r h' => r = .p (.c (.bool true)) := by
  refine spec_body (Λ := lam [(0, gaps_l)]) gokLw Try.func4 rfl (lokl ⟨lam_ok (fun y Q hy hq => gaps_step y.1 y.2.1 y.2.2.1 y.2.2.2.1 y.2.2.2.2 Q hy hq), trivial⟩) ?_
  show body Try.prog (gam gLw) (lam [(0, gaps_l)]) Try.f4 [.c (.str s), ti at_, ti how] [] _
  rw [vc_lgaps]
  intro _
  refine cond_of (fun _ => rfl) (fun hc => ?_)
  have hc : s.size ≤ 2048 := by have := of_decide_eq_false hc; omega
  have hlen : (bytesOf s).length = s.size := bytesOf_len s
  rcases places_all 0 s (by omega) with ⟨p, e, q1, q2, q3, q4, q5⟩ | ⟨l, e, l1, l2, l3, l4⟩
  · rw [e]
    refine cond_of (fun _ => ?_) (fun g => by simp at g)
    simp
  rw [e]
  dsimp only
  refine cond_of (fun g => ?_) (fun _ _ => ?_)
  · exfalso
    simp only [Bool.or_eq_true, beq_iff_eq] at g
    rcases g with g | g
    · simp at g
    · omega
  obtain ⟨⟨m2, b1, b2⟩, hall⟩ := gaps_all hc e
  obtain ⟨r1, r2⟩ := remU_eq at_ l.length (by omega) (by omega)
  rw [r1, Int.toNat_natCast]
  generalize remU at_ l.length = j at r2 ⊢
  have ez : (tTok.dft : Tok) = zT := rfl
  rw [ez]
  obtain ⟨b, hb, ep, hg⟩ := hall j r2
  obtain ⟨K, k1, k2, k3, k4, k5⟩ := line_start (bytesOf s) (by omega) b (by omega)
  have eline := (lc_inv 0 (bytesOf s) (by omega) b (by omega)).1
  generalize ht : l.getD j zT = t at ep ⊢
  have et1 : t.2.2.2.1 = linesV ((bytesOf s).take b) := by rw [ep]; exact eline
  have et2 : t.2.2.2.2 = ((b - K : Nat) : Int) + 1 := by rw [ep]; exact k2
  refine ⟨?_, by omega, by omega, r2, (s, how, l, t, K), rfl, ⟨by show s.size ≤ 1000000; omega, by show K ≤ s.size; omega, fun i hi => ?_, ?_⟩, fun _ => ?_⟩
  · rw [w64u (by omega) (by omega)]; omega
  · show linesV ((bytesOf s).take i) < t.2.2.2.1
    rw [et1]; exact k4 i hi
  · show t.2.2.2.1 ≤ linesV ((bytesOf s).take K)
    rw [et1, k3]; exact Int.le_refl _
  dsimp only
  have ek : IntKind.i64.wrap (IntKind.i64.wrap ((K : Int) + t.2.2.2.2) - 1) = (b : Int) := by
    rw [et2, w64 (x := (K : Int) + (((b - K : Nat) : Int) + 1)) (by omega) (by omega), w64 (by omega) (by omega)]; omega
  rw [ek]
  have h0 : 0 ≤ IntKind.u64.wrap how := by rw [IntKind.wrap_u64]; omega
  have h3 : 0 ≤ (IntKind.u64.wrap how).tmod 4 := Int.tmod_nonneg _ h0
  have h4 : (IntKind.u64.wrap how).tmod 4 < 4 := Int.tmod_lt_of_pos _ (by omega)
  refine cond_of (fun g => absurd (of_decide_eq_true g) (by omega)) (fun _ => ?_)
  generalize hx : ((IntKind.u64.wrap how).tmod 4).toNat = x
  have hx4 : x < 4 := by omega
  have hmem : gapsB.getD x ByteArray.empty ∈ gapsB := by
    rw [getD_at (show x < gapsB.length from hx4)]; exact List.getElem_mem _
  have hsz : (gapsB.getD x ByteArray.empty).size ≤ 8 := by
    have : ∀ g ∈ gapsB, g.size ≤ 8 := by decide
    exact this _ hmem
  obtain ⟨m1, a1, a2⟩ := hg _ hmem
  show (4 : Int) ≠ 0 ∧ (0 : Int) ≤ (IntKind.u64.wrap how).tmod 4 ∧ (IntKind.u64.wrap how).tmod 4 < 4 ∧ (IntKind.u64.wrap how).tmod 4 < 4 ∧ (0 : Int) ≤ (b : Int) ∧ (b : Int) ≤ (s.size : Int) ∧ (s.extract 0 b).size + (gapsB.getD x ByteArray.empty).size ≤ maxI ∧ (0 : Int) ≤ (b : Int) ∧ (b : Int) ≤ (s.size : Int) ∧ (s.extract 0 b ++ gapsB.getD x ByteArray.empty).size + (s.extract b s.size).size ≤ maxI ∧ _
  have z1 : (s.extract 0 b).size ≤ s.size := by rw [ByteArray.size_extract]; omega
  have z2 : (s.extract b s.size).size ≤ s.size := by rw [ByteArray.size_extract]; omega
  have tail : ∀ A : Prop, A → s.size + 10 ≤ maxI ∧ A := fun A h => ⟨by simp only [maxI]; omega, h⟩
  refine ⟨by omega, h3, h4, h4, by omega, by omega, by simp only [maxI]; omega, by omega, by omega, by rw [ByteArray.size_append]; simp only [maxI]; omega, ?_⟩
  have a1' : tokensV 0 (s.extract 0 (hiN s.size (some (b : Int))) ++ gapsB.getD x ByteArray.empty ++ s.extract (loN (some (b : Int))) (hiN s.size none)) = (m1, (0, 0, 0, 0)) := a1
  rw [a1', b1]
  dsimp only
  rw [a2, b2]
  refine ⟨⟨tail _ rfl, tail _ rfl⟩, tail _ rfl⟩
end Go.Proofs.Ytodmofkeglfcaaa.Ch
