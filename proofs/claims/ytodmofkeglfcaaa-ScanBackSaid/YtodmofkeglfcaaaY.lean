/- Chapter 02 (scan): the law ScanBack. No condition. -/
import Derived.Test.YtodmofkeglfcaaaX
namespace Go.Proofs.Ytodmofkeglfcaaa.Ch
open Go Go.Proofs Go.Proofs.Ytodmofkeglfcaaa.Sx
set_option linter.unusedVariables false
set_option linter.unusedSimpArgs false

theorem back_step (ts : List ByteArray) (cs : List Int) (Q : Exit → SS → Prop) (h : ts.length ≤ 60 ∧ ts.length ≤ cs.length) (h1 : Q .ret (⟨95, [(4, .p (tb true))], []⟩ : SS)) (h2 : (∀ t ∈ ts, t.size ≤ 60) → Q (.exit 0) (⟨95, [(5, .p (.c (.str (bkF ts cs ts.length).1))), (6, .p (.c (.view tTok 0 0 (bkF ts cs ts.length).2.length)))], [.row 36 tTok (bkF ts cs ts.length).2]⟩ : SS)) : W 0 Try.prog (.loop (lp Try.f7 0)) (stBk ts cs (⟨#[]⟩, []) 0) Q := by
  refine W_all (fun i => stBk ts cs (bkF ts cs i) i) ts.length (fun i => (ts.getD i ⟨#[]⟩).size ≤ 60) [0, 1, 5, 6, 7] [5, 6] [4] (fun i hi ho K hK => ?_)
  refine sx_ok (Λ := noLam) gokLw _ 0 _ _ noLam_ok ?_
  rw [vc_backL]
  intro _
  rw [Int.toNat_natCast]
  refine cond_of (fun hc => ?_) (fun hc => ?_)
  · have hc : i < ts.length := by have := of_decide_eq_true hc; omega
    have hK := hK hc
    have ew : IntKind.i64.wrap ((i : Int) + 1) = ((i + 1 : Nat) : Int) := w64n (n := i + 1) (by omega)
    have hsz := bk_size ts cs i ho
    have hln := bk_len ts cs i
    have es : stBk ts cs (bkF ts cs (i + 1)) (i + 1) = stBk ts cs (bkS (bkF ts cs i) (ts.getD i ⟨#[]⟩) (cs.getD i 0)) (i + 1) := rfl
    rw [es] at hK
    have ee : (ByteArray.empty : ByteArray) = ⟨#[]⟩ := rfl
    have ei : (tI.dft : Int) = 0 := rfl
    rw [ew, ee, ei, vw_all]
    generalize bkF ts cs i = x at hK hsz hln ⊢
    obtain ⟨s, w⟩ := x
    generalize ht : ts.getD i ⟨#[]⟩ = t at hK ⊢
    generalize cs.getD i 0 = c at hK ⊢
    dsimp only at hsz hln ⊢
    refine ⟨by omega, by omega, hc, fun _ => cond_of (fun _ => h1) (fun g => ?_)⟩
    have g : t.size ≤ 60 := by have := of_decide_eq_false g; omega
    have hK := hK g
    have hw : ∀ k : Int, (w ++ [(k, t, (0 : Int), (0 : Int), (0 : Int))]).length * 48 ≤ 140737488355328 := fun k => by rw [List.length_append]; simp only [List.length_cons, List.length_nil]; omega
    have hq := flat_len (bytesOf t)
    rw [bytesOf_len] at hq
    have skip : bkI t c = none → K (stBk ts cs (s, w) (i + 1)) := fun e => by
      unfold bkS at hK
      rw [e] at hK
      exact hK
    have put : ∀ (k : Int) (v : ByteArray), bkI t c = some (k, v) → K (stBk ts cs (s ++ v ++ ⟨#[32]⟩, w ++ [(k, t, 0, 0, 0)]) (i + 1)) := fun k v e => by
      unfold bkS at hK
      rw [e] at hK
      exact hK
    have sz : ∀ v : ByteArray, v.size ≤ 122 → s.size + v.size ≤ maxI ∧ (s ++ v).size + 1 ≤ maxI := fun v hv => by
      rw [ByteArray.size_append]; simp only [maxI]; omega
    refine ⟨by omega, by omega, by omega, by omega, by omega, cond_of (fun g0 => ?_) (fun g0 => cond_of (fun g1 => ?_) (fun g1 => ?_))⟩
    · have g0 : (IntKind.u64.wrap c).tmod 3 = 0 := by simpa using g0
      refine cond_of (fun g2 => ?_) (fun g2 => ?_)
      · have g2 : nameV t = false := by simpa using g2
        exact skip (by unfold bkI; rw [if_pos g0, if_neg (by rw [g2]; simp)])
      · have g2 : nameV t = true := by simpa using g2
        obtain ⟨z1, z2⟩ := sz t (by omega)
        exact ⟨by simp, by omega, hw 2, z1, z2, put 2 t (by unfold bkI; rw [if_pos g0, if_pos g2])⟩
    · have g0 : (IntKind.u64.wrap c).tmod 3 ≠ 0 := by simpa using g0
      have g1 : (IntKind.u64.wrap c).tmod 3 = 1 := by simpa using g1
      obtain ⟨z1, z2⟩ := sz t (by omega)
      refine cond_of (fun g2 => ?_) (fun g2 => cond_of (fun g3 => ?_) (fun g3 => ?_))
      · exact ⟨by simp, by omega, hw 5, z1, z2, put 5 t (by unfold bkI; rw [if_neg g0, if_pos g1, if_pos g2])⟩
      · exact ⟨by simp, by omega, hw 6, z1, z2, put 6 t (by unfold bkI; rw [if_neg g0, if_pos g1, if_neg (by rw [g2]; simp), if_pos g3])⟩
      · exact skip (by unfold bkI; rw [if_neg g0, if_pos g1, if_neg (by rw [g2]; simp), if_neg (by rw [g3]; simp)])
    · have g0 : (IntKind.u64.wrap c).tmod 3 ≠ 0 := by simpa using g0
      have g1 : (IntKind.u64.wrap c).tmod 3 ≠ 1 := by simpa using g1
      refine ⟨by omega, by simp only [maxI]; omega, by rw [ByteArray.size_append]; show 1 + _ + 1 ≤ _; simp only [maxI]; omega, cond_of (fun g2 => ?_) (fun g2 => ?_)⟩
      · have g2 : strEq (strOf (quoteL (bytesOf t))) (⟨#[34]⟩ ++ t ++ ⟨#[34]⟩) = false := by simpa using g2
        exact skip (by unfold bkI; rw [if_neg g0, if_neg g1, if_neg (by rw [g2]; simp)])
      · have g2 : strEq (strOf (quoteL (bytesOf t))) (⟨#[34]⟩ ++ t ++ ⟨#[34]⟩) = true := by simpa using g2
        have hz : (strOf (quoteL (bytesOf t))).size ≤ 122 := by
          rw [strOf_size]; unfold quoteL
          simp only [List.length_cons, List.length_append, List.length_nil]; omega
        obtain ⟨z1, z2⟩ := sz _ hz
        exact ⟨by simp, by omega, hw 4, z1, z2, put 4 _ (by unfold bkI; rw [if_neg g0, if_neg g1, if_pos g2])⟩
  · have hc : i = ts.length := by have := of_decide_eq_false hc; omega
    subst hc
    refine h2 fun t ht => ?_
    obtain ⟨j, hj, rfl⟩ := List.getElem_of_mem ht
    have := ho j hj
    rw [getD_at hj] at this
    exact this
theorem back_law (ts : List ByteArray) (cs : List Int) : FSpec Try.prog 7 [.c (.row .str ts), .c (.row tI cs)] [] fun r h' => r = .p (.c (.bool true)) := by
  refine spec_body (Λ := lam [(0, back_l)]) gokLw Try.func7 rfl (lokl ⟨lam_ok (fun y Q hy ⟨h1, h2⟩ => back_step y.1 y.2 Q hy h1 h2), trivial⟩) ?_
  show body Try.prog (gam gLw) (lam [(0, back_l)]) Try.f7 [.c (.row .str ts), .c (.row tI cs)] [] _
  rw [vc_lback]
  intro _
  refine cond_of (fun _ => rfl) (fun hc => ?_)
  have hc : ts.length ≤ 60 ∧ ts.length ≤ cs.length := by
    rw [Bool.or_eq_false_iff] at hc
    have h1 := of_decide_eq_false hc.1
    have h2 := of_decide_eq_false hc.2
    omega
  refine ⟨(ts, cs), rfl, hc, rfl, fun hall => ?_⟩
  have hall : ∀ t ∈ ts, t.size ≤ 60 := hall
  have hj : ∀ j, j < ts.length → (ts.getD j ⟨#[]⟩).size ≤ 60 := fun j hj => by rw [getD_at hj]; exact hall _ (List.getElem_mem hj)
  obtain ⟨l, e1, e2⟩ := back_all ts cs ts.length hc.1 hj
  have hsz := bk_size ts cs ts.length hj
  have hln := bk_len ts cs ts.length
  dsimp only
  rw [vw_all, vw_all, e1, e2]
  refine ⟨by simp only [maxI]; omega, by omega, by omega, by rw [List.length_append]; simp only [List.length_cons, List.length_nil]; omega, cond_of (fun _ => ⟨by omega, rfl⟩) (fun g => by simp at g)⟩
end Go.Proofs.Ytodmofkeglfcaaa.Ch
