/- Chapter 7 (scope): the law ScopeExact, proved. No condition. -/
import Derived.Test.YtlfnpdfgdebhkaaXAV
namespace Go.Proofs.Ytlfnpdfgdebhkaa.Ch
open Go Go.Proofs Go.Proofs.Ytlfnpdfgdebhkaa.Sx
set_option linter.unusedVariables false
set_option linter.unusedSimpArgs false

theorem gokExact : GOK Try.prog (gam gExact) := gam_ok ⟨awake_ok, laid_ok, orNil_ok len0_ok len_ok, orNil_ok object0_ok object_ok, orNil_ok outer0_ok outer_ok, orNil_ok within0_ok within_ok, rwith_ok, orNil_ok find0_ok find_ok, rfind_ok, orNil_ok here0_ok here_ok, rhere_ok, trivial⟩
theorem str_self (s : ByteArray) : strEq s s = true := (strEq_iff _ _).2 rfl
theorem exact_first (d : ED) (h : eOk d) (Q : Exit → SS → Prop) (hq : Q (.exit 0) (stEX d.nms d.o d.ins d.l d.es)) : W 0 Try.prog (.loop (lp Try.f5 0)) (stE1 d.nms d.o d.ins d.l d.es (-1)) Q := by
  obtain ⟨nms, o, ins, l, es, a⟩ := d
  obtain ⟨hO, hI, ⟨ho, hl, hl1⟩, hx, hn⟩ := h
  dsimp only at hO hI ho hl hl1 hx hn hq ⊢
  refine W_loopE (N := 0) (P := Try.prog) (body := lp Try.f5 0) (Q := Q) (fun x : Nat => stE1 nms o ins l es ((x : Int) - 1)) (fun x => x ≤ l.length + 2) (fun x => l.length + 2 - x) [1, 5, 6, 8] [1, 5, 6] [4] (fun i h1 => ?_) 0 (Nat.zero_le _)
  have h1 : i ≤ l.length + 2 := h1
  refine sx_ok (Λ := noLam) gokExact _ 0 _ _ noLam_ok ?_
  rw [vc_e1]
  intro hm
  refine cond_of (fun hc => ?_) (fun hc => hq)
  have hc : (i : Int) - 1 ≤ (l.length : Int) := by simpa using hc
  have ei : IntKind.i64.wrap ((i : Int) - 1 + 1) = ((i + 1 : Nat) : Int) - 1 := by rw [w64 (by omega) (by omega)]; omega
  rw [ei]
  have hob : (o.length = o.length ∧ l.length = l.length ∧ o.length ≤ 1000 ∧ l.length ≤ 1000 ∧ 1 ≤ l.length) := ⟨rfl, rfl, by omega, by omega, by omega⟩
  have go : ∃ y : Nat, stE1 nms o ins l es (((i + 1 : Nat) : Int) - 1) = stE1 nms o ins l es ((y : Int) - 1) ∧ y ≤ l.length + 2 ∧ l.length + 2 - y < l.length + 2 - i := ⟨i + 1, rfl, by omega, by omega⟩
  refine cond_of (fun hi => ?_) (fun hi => ?_)
  · simp only [Bool.and_eq_true, decide_eq_true_eq] at hi
    have hib : inB l.length ((i : Int) - 1) = true := inB_iff.2 (by omega)
    have hlt : ((i : Int) - 1).toNat < l.length := by omega
    have e : objV l ((i : Int) - 1) = l[((i : Int) - 1).toNat] := by unfold objV; rw [if_pos hib, getD_at hlt]
    refine ⟨by omega, by omega, by omega, hob, ?_⟩
    rw [Nat.zero_add, getD_at hlt, e]
    generalize l[((i : Int) - 1).toNat] = x
    simp only [beq_self_eq_true, str_self, Bool.and_true, Bool.not_true]
    exact go
  · have hib : inB l.length ((i : Int) - 1) = false := by
      cases hh : inB l.length ((i : Int) - 1) with
      | false => rfl
      | true =>
        have := inB_iff.1 hh
        rw [decide_eq_true (p := (i : Int) - 1 ≥ 1) (by omega), decide_eq_true (by omega)] at hi
        cases hi
    have e : objV l ((i : Int) - 1) = zeroO := by unfold objV; rw [if_neg (by rw [hib]; simp)]
    refine ⟨hob, ?_⟩
    rw [e]
    simp only [zeroO, emptyB, beq_self_eq_true, str_self, Bool.and_true, Bool.not_true]
    exact go
theorem here_same {o ins : List Int} {l : List Ob} {es : Es} (hI : Inv ins l es) (hx : ∀ x ∈ ins, x < (o.length : Int)) (a : Int) (nm : ByteArray) (h1 : 1 ≤ a) : (hereV o.length es a nm).getD 0 = rhereV ins l a nm ∧ (hereV o.length es a nm).isSome = (rhereV ins l a nm != 0) := by
  obtain ⟨e1, e2⟩ := rhere_look hI a nm
  unfold hereV
  by_cases ha : inB o.length a = true
  · rw [if_pos ha]
    refine ⟨e1, ?_⟩
    rw [Bool.eq_iff_iff, e2, bne_iff_ne]
  · rw [if_neg ha]
    have hz : lookV es a nm = none := by
      rw [hI.2.2]
      cases hf : firstM (matB ins l a nm) l.length with
      | none => rfl
      | some i =>
        exfalso
        obtain ⟨h2, h3⟩ := firstM_some hf
        unfold matB at h3
        simp only [Bool.and_eq_true] at h3
        have h4 : ins.getD i 0 = a := by simpa using h3.2.1.1
        have hlt : i < ins.length := by rw [hI.1]; exact h2
        rw [getD_at hlt] at h4
        have := hx _ (List.getElem_mem hlt)
        exact ha (inB_iff.2 (by omega))
    rw [hz] at e1
    have e1 : (0 : Int) = rhereV ins l a nm := e1
    rw [← e1]
    exact ⟨rfl, rfl⟩
theorem exact_inner (d : ED) (h : eOk d) (Q : Exit → SS → Prop) (hq : Q (.exit 4) (stE2 d.nms d.o d.ins d.l d.es d.a)) : W 0 Try.prog (.loop (lpIn (lp Try.f5 1) 2 0)) (stE3 d.nms d.o d.ins d.l d.es d.a 0) Q := by
  obtain ⟨nms, o, ins, l, es, a⟩ := d
  obtain ⟨hO, hI, ⟨ho, hl, hl1⟩, hx, hn⟩ := h
  dsimp only at hO hI ho hl hl1 hx hn hq ⊢
  refine W_loopE (N := 0) (P := Try.prog) (body := lpIn (lp Try.f5 1) 2 0) (Q := Q) (fun x : Nat => stE3 nms o ins l es a x) (fun x => x ≤ nms.length) (fun x => nms.length - x) [1, 5, 6, 10, 12] [1, 5, 6, 10] [4] (fun i h1 => ?_) 0 (Nat.zero_le _)
  have h1 : i ≤ nms.length := h1
  refine sx_ok (Λ := noLam) gokExact _ 4 _ _ noLam_ok ?_
  rw [vc_e3]
  intro hm
  refine cond_of (fun hc => ?_) (fun hc => hq)
  have hc : i < nms.length := by simpa using hc
  have ei : IntKind.i64.wrap ((i : Int) + 1) = ((i + 1 : Nat) : Int) := w64n (n := i + 1) (by omega)
  rw [ei, Int.toNat_natCast]
  have hoa : ((o.length = o.length ∧ l.length = l.length ∧ o.length ≤ 1000 ∧ l.length < 1000 ∧ 1 ≤ l.length) ∧ OutOk o) := ⟨⟨rfl, rfl, by omega, by omega, by omega⟩, outI_ok hO⟩
  have hob : (o.length = o.length ∧ l.length = l.length ∧ o.length ≤ 1000 ∧ l.length ≤ 1000 ∧ 1 ≤ l.length) := ⟨rfl, rfl, by omega, by omega, by omega⟩
  have hor : (o.length = o.length ∧ ins.length = ins.length ∧ l.length = l.length ∧ o.length ≤ 1000 ∧ ins.length = l.length ∧ l.length < 1000 ∧ 1 ≤ l.length) := ⟨rfl, rfl, rfl, by omega, hI.1, by omega, hl1⟩
  have h0 : (0 : Int) ≤ (i : Int) := by omega
  have h2 : (i : Int) < (nms.length : Int) := by omega
  have go : ∃ y : Nat, stE3 nms o ins l es a ((i + 1 : Nat)) = stE3 nms o ins l es a y ∧ y ≤ nms.length ∧ nms.length - y < nms.length - i := ⟨i + 1, rfl, by omega, by omega⟩
  rw [find_same hI (outI_ok hO)]
  generalize hnm : nms.getD i ByteArray.empty = nm
  have ef : ∀ r : Int × Int, ((trip r).1 != r.1 || (trip r).2.1 != r.2 || !((trip r).2.2 == (r.1 != 0))) = false := fun r => by simp [trip]
  refine ⟨h0, h2, hc, hoa, h0, h2, hc, ⟨hor, outI_ok hO⟩, h0, h2, hc, hob, cond_of (fun ha => ?_) (fun ha => ?_)⟩
  · have ha : 1 ≤ a := by simpa using ha
    obtain ⟨g1, g2⟩ := here_same hI hx a nm ha
    refine ⟨h0, h2, hc, hor, ?_⟩
    rw [g1, g2, ef]
    simp only [bne_self_eq_false, beq_self_eq_true, Bool.not_true, Bool.or_false]
    exact go
  · have ha : ¬ (1 ≤ a) := by simpa using ha
    have e : hereV o.length es a nm = none := by
      unfold hereV
      rw [if_neg (fun h => ha (inB_iff.1 h).1)]
    rw [e, ef]
    exact go
theorem exact_second (d : ED) (h : eOk d) (Q : Exit → SS → Prop) (hq : Q (.exit 2) (⟨208, [], []⟩ : SS)) : W 0 Try.prog (.loop (lp Try.f5 1)) (stE2 d.nms d.o d.ins d.l d.es (-1)) Q := by
  obtain ⟨nms, o, ins, l, es, a⟩ := d
  have h' := h
  obtain ⟨hO, hI, ⟨ho, hl, hl1⟩, hx, hn⟩ := h
  dsimp only at hO hI ho hl hl1 hx hn hq ⊢
  refine W_loopE (N := 0) (P := Try.prog) (body := lp Try.f5 1) (Q := Q) (fun x : Nat => stE2 nms o ins l es ((x : Int) - 1)) (fun x => x ≤ o.length + 2) (fun x => o.length + 2 - x) [1, 5, 6, 10] [] [4] (fun i h1 => ?_) 0 (Nat.zero_le _)
  have h1 : i ≤ o.length + 2 := h1
  refine sx_ok (Λ := lam [(4, e3_l)]) gokExact _ 2 _ _ (lokl (l := [(4, lpIn (lp Try.f5 1) 2 0)]) ⟨lam_ok fun x Q a1 a => exact_inner x a1 Q a, trivial⟩) ?_
  rw [vc_e2]
  intro hm
  refine cond_of (fun hc => ?_) (fun hc => hq)
  have hc : (i : Int) - 1 ≤ (o.length : Int) := by simpa using hc
  have ei : IntKind.i64.wrap ((i : Int) - 1 + 1) = ((i + 1 : Nat) : Int) - 1 := by rw [w64 (by omega) (by omega)]; omega
  have hoa : ((o.length = o.length ∧ l.length = l.length ∧ o.length ≤ 1000 ∧ l.length < 1000 ∧ 1 ≤ l.length) ∧ OutOk o) := ⟨⟨rfl, rfl, by omega, by omega, by omega⟩, outI_ok hO⟩
  have hob : (o.length = o.length ∧ l.length = l.length ∧ o.length ≤ 1000 ∧ l.length ≤ 1000 ∧ 1 ≤ l.length) := ⟨rfl, rfl, by omega, by omega, by omega⟩
  have hor : (o.length = o.length ∧ ins.length = ins.length ∧ l.length = l.length ∧ o.length ≤ 1000 ∧ ins.length = l.length ∧ l.length < 1000 ∧ 1 ≤ l.length) ∧ OutOk o := ⟨⟨rfl, rfl, rfl, by omega, hI.1, by omega, hl1⟩, outI_ok hO⟩
  have go : ∃ y : Nat, stE2 nms o ins l es (IntKind.i64.wrap ((i : Int) - 1 + 1)) = stE2 nms o ins l es ((y : Int) - 1) ∧ y ≤ o.length + 2 ∧ o.length + 2 - y < o.length + 2 - i := ⟨i + 1, by rw [ei], by omega, by omega⟩
  have hw := with_same (outI_ok hO)
  have nb : ∀ b : Bool, (false || !(b == b)) = false := by simp
  rw [hw, hw, hw, nb, nb, nb]
  refine cond_of (fun hi => ?_) (fun hi => ?_)
  · simp only [Bool.and_eq_true, decide_eq_true_eq] at hi
    have hib : inB o.length ((i : Int) - 1) = true := inB_iff.2 (by omega)
    have e : outerV o ((i : Int) - 1) = o.getD (0 + ((i : Int) - 1).toNat) tI.dft := by unfold outerV; rw [if_pos hib, Nat.zero_add]; rfl
    rw [e]
    refine ⟨by omega, by omega, by omega, hob, cond_of (fun h => by simp at h) (fun _ => ⟨hoa, hor, hoa, hor, hoa, hor, ⟨nms, o, ins, l, es, (i : Int) - 1⟩, rfl, h', go⟩)⟩
  · have hib : inB o.length ((i : Int) - 1) = false := by
      cases hh : inB o.length ((i : Int) - 1) with
      | false => rfl
      | true =>
        have := inB_iff.1 hh
        rw [decide_eq_true (p := (i : Int) - 1 ≥ 1) (by omega), decide_eq_true (by omega)] at hi
        cases hi
    have e : outerV o ((i : Int) - 1) = 0 := by unfold outerV; rw [if_neg (by rw [hib]; simp)]
    rw [e]
    exact ⟨hob, hoa, hor, hoa, hor, hoa, hor, ⟨nms, o, ins, l, es, (i : Int) - 1⟩, rfl, h', go⟩
theorem exact_ok (acts : List Ac) (nms : List ByteArray) : FSpec Try.prog 5 [.c (.row tA acts), .c (.row .str nms)] [] fun r h' => r = .p (.c (.bool true)) := by
  refine spec_body (Λ := lam [(0, e1_l), (2, e2_l)]) gokExact Try.func5 rfl ?_ ?_
  · exact lokl (l := [(0, lp Try.f5 0), (2, lp Try.f5 1)]) ⟨lam_ok fun x Q a1 a => exact_first x a1 Q a, lam_ok fun x Q a1 a => exact_second x a1 Q a, trivial⟩
  rw [vc_exact]
  intro hm
  refine cond_of (fun _ => rfl) (fun hc o ins l es hL => ?_)
  have hc : ¬ (10 < (nms.length : Int)) := by simpa using hc
  obtain ⟨hO, hI, ho, hl, hx⟩ := hL
  have hl1 := hI.2.1
  have e : eOk ⟨nms, o, ins, l, es, 0⟩ := ⟨hO, hI, ⟨by show o.length ≤ 1000; omega, by show l.length < 1000; omega, hl1⟩, hx, by show nms.length ≤ 10; omega⟩
  rw [w64 (x := (l.length : Int) - 1) (by omega) (by omega), show (false || (l.length : Int) - 1 != (l.length : Int) - 1) = false by simp]
  exact ⟨⟨rfl, rfl, by omega, by omega, by omega⟩, ⟨nms, o, ins, l, es, 0⟩, rfl, e, ⟨nms, o, ins, l, es, 0⟩, rfl, e, rfl⟩
end Go.Proofs.Ytlfnpdfgdebhkaa.Ch
