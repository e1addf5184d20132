/- WideBack's pure statement: a number's text is read back to the number, and two numbers have one text only if they are one. No condition. -/
import Derived.Test.YtjnaebcdidilgaaWG
import Derived.Test.YtjnaebcdidilgaaWD
import Derived.Test.YtjnaebcdidilgaaQx38
namespace Go.Proofs.Ytjnaebcdidilgaa.Q
open Go.RowKit Go.Proofs.YtjnaebcdidilgaaW.PrintWords Go.Proofs.YtjnaebcdidilgaaW.PrintLast Go.Proofs.YtjnaebcdidilgaaW.PrintMore
set_option linter.unusedVariables false

theorem absI_le {n : Int} (h : fits n) : absI n ≤ 340282366920938463463374607431768211456 := by have := (absI_bound h).2; omega
theorem D_abs {n : Int} (h : fits n) : Can (D (absI n)) ∧ val (D (absI n)) = absI n := D_is (absI_bound h).1 (absI_le h)
theorem txt_ne (n : Bool) (ds : List Int) : 1 ≤ (txt n ds).length := by
  unfold txt
  by_cases h : ds = []
  · rw [if_pos h]; simp
  · rw [if_neg h]
    have : 1 ≤ ds.length := List.length_pos_iff.2 h
    simp; omega
theorem txt_head {n : Bool} {ds : List Int} (h : Dg ds) : rd (txt n ds) 0 = 45 ↔ n = true := by
  cases n
  · have hx : rd (txt false ds) 0 ≠ 45 := by
      intro e
      have hl := txt_ne false ds
      have hm : rd (txt false ds) 0 ∈ txt false ds := by
        unfold rd
        rw [show (0 : Int).toNat = 0 from rfl, List.getD_eq_getElem?_getD, List.getElem?_eq_getElem (by omega)]
        exact List.getElem_mem _
      rw [e] at hm
      unfold txt at hm
      rw [if_neg (by decide), List.nil_append] at hm
      by_cases he : ds = []
      · rw [if_pos he] at hm; simp at hm
      · rw [if_neg he] at hm
        simp only [List.mem_reverse, List.mem_map] at hm
        obtain ⟨x, hx, he⟩ := hm
        have := h x hx
        omega
    exact ⟨fun e => absurd e hx, fun e => by cases e⟩
  · exact ⟨fun _ => rfl, fun _ => rfl⟩
theorem W64_wf {n : Int} (h : (Lit.int .u64 n).wf = true) : W64 n := by
  simp only [Lit.wf, Bool.and_eq_true, decide_eq_true_eq] at h
  have h1 : IntKind.u64.min = 0 := by decide
  have h2 : IntKind.u64.max = 18446744073709551615 := by decide
  unfold W64
  omega
theorem txt_bytes (n : Bool) {ds : List Int} (h : Dg ds) : bytesOf (strOfNums (txt n ds)) = txt n ds := bytesOf_nums (txt_byte h)
theorem bytes_extract (s : ByteArray) : bytesOf (s.extract 1 s.size) = (bytesOf s).drop 1 := by
  unfold bytesOf
  rw [← List.map_drop]
  congr 1
  have : (s.extract 1 s.size).data = s.data.extract 1 s.size := by simp
  rw [this, Array.toList_extract]
  simp only [List.extract]
  rw [List.take_of_length_le]
  rw [List.length_drop, Array.length_toList]
  exact Nat.le_refl _
theorem WideBack_pure (ah al bh bl : Int) (h1 : (Lit.int .u64 ah).wf = true) (h2 : (Lit.int .u64 al).wf = true) (h3 : (Lit.int .u64 bh).wf = true) (h4 : (Lit.int .u64 bl).wf = true) : lorgnettelaw01_WideBack.f 600 ah al bh bl = some true := by
  replace h1 := W64_wf h1
  replace h2 := W64_wf h2
  replace h3 := W64_wf h3
  replace h4 := W64_wf h4
  have fa := sval_fits h1 h2
  have fb := sval_fits h3 h4
  obtain ⟨ca, va⟩ := D_abs fa
  obtain ⟨cb, vb⟩ := D_abs fb
  have ta := txt_bytes (decide (sval ah al < 0)) (Can_dg ca)
  have tb := txt_bytes (decide (sval bh bl < 0)) (Can_dg cb)
  have sz := (bytes_len (strOfNums (txt (decide (sval ah al < 0)) (D (absI (sval ah al)))))).symm
  rw [ta] at sz
  have hne := txt_ne (decide (sval ah al < 0)) (D (absI (sval ah al)))
  unfold lorgnettelaw01_WideBack.f
  rw [awake_ok, Option.bind_some, if_pos rfl, Print_is 600 (by omega) h1 h2, Option.bind_some, if_neg (by omega), Print_is 600 (by omega) h3 h4, Option.bind_some, toList_beq, ta, tb]
  have heq : (decide (txt (decide (sval ah al < 0)) (D (absI (sval ah al))) = txt (decide (sval bh bl < 0)) (D (absI (sval bh bl)))) != (ah == bh && (al == bl))) = false := by
    rw [bne_eq_false_iff_eq, Bool.eq_iff_iff, decide_eq_true_eq, Bool.and_eq_true, beq_iff_eq, beq_iff_eq]
    constructor
    · intro h
      obtain ⟨e1, e2⟩ := txt_inj ca cb h
      rw [decide_eq_decide] at e1
      have e3 : absI (sval ah al) = absI (sval bh bl) := by rw [← va, ← vb, e2]
      refine sval_inj h1 h2 h3 h4 ?_
      unfold absI at e3
      split at e3 <;> split at e3 <;> omega
    · rintro ⟨rfl, rfl⟩; rfl
  rw [heq, if_neg (by decide), if_pos (by omega), ← rd_bytes, ta]
  by_cases hn : sval ah al < 0
  · rw [if_pos ((txt_head (Can_dg ca)).2 (decide_eq_true hn)), Neg_is h1 h2, Option.bind_some]
    by_cases fn : fits (-sval ah al)
    · rw [ans_pos fn, if_pos rfl, Print_is 600 (by omega) (hiS_W _) (loS_W _), Option.bind_some, if_pos (by omega), toList_beq, bytes_extract, ta, sval_back fn]
      have ea : absI (-sval ah al) = absI (sval ah al) := by unfold absI; rw [if_pos hn]; exact if_neg (by omega)
      have dn : decide (-sval ah al < 0) = false := decide_eq_false (by omega)
      rw [ea, dn, txt_bytes _ (Can_dg ca), decide_eq_true hn]
      congr 1
      exact decide_eq_true rfl
    · rw [ans_neg fn, if_neg (by decide), Of_is (by decide), Option.bind_some]
      simp only
      rw [Cmp_is h1 h2 (hiS_W _) (loS_W _), Option.bind_some, sval_back (show fits 0 by decide), if_pos hn]
      rfl
  · have dn : decide (sval ah al < 0) = false := decide_eq_false hn
    rw [if_neg (fun h => by have := (txt_head (Can_dg ca)).1 h; rw [dn] at this; cases this)]
    have hl : (txt (decide (sval ah al < 0)) (D (absI (sval ah al)))).length ≤ 41 := by
      have := D_len (absI (sval ah al))
      unfold txt
      simp only [List.length_append]
      split <;> split <;> simp <;> omega
    rw [Parse_is 600 _ (by omega) (by omega), Option.bind_some, ta, dn]
    obtain ⟨f1, f2⟩ := txt_form ca
    have ea : absI (sval ah al) = sval ah al := if_neg hn
    rw [if_pos f1, f2, va, ea, ans_pos fa, hiS_sval h1 h2, loS_sval h1 h2]
    simp
end Go.Proofs.Ytjnaebcdidilgaa.Q
