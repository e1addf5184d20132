/- Chapter 11 (code): the law CodeBuilds: methods told of named builders, the first loop, the last one. No condition. -/
import Derived.Test.YtkpepieepdmjpaaSV
namespace Go.Proofs.Ytkpepieepdmjpaa.Ch
open Go Go.Proofs Go.Proofs.Ytkpepieepdmjpaa.Sx
set_option linter.unusedVariables false
set_option linter.unusedSimpArgs false

theorem named {f : FuncId} {t t2 : Tr} (h : ∀ args h Q, t args h Q → FSpec Try.prog f args h Q) (hi : ∀ args h Q, t2 args h Q → t args h Q) : ∀ args h Q, t2 args h Q → FSpec Try.prog f args h Q := fun a b c d => h a b c (hi a b c d)
theorem trH_imp {as_ : List AS} {hs : List HS} {I J : AS.TL as_ → HS.TL hs → (SV → List HB → Prop) → Prop} (h : ∀ x y Q, I x y Q → J x y Q) : ∀ args hh Q, trH as_ hs I args hh Q → trH as_ hs J args hh Q := by
  intro args hh Q ht
  unfold trH trOf at ht ⊢
  split at ht
  · exact h _ _ _ ht
  · exact ht.elim
theorem mark2_ok : ∀ args h Q, mark2_t args h Q → FSpec Try.prog 16 args h Q := named mark_ok (trH_imp fun x y Q ⟨a, b⟩ => ⟨a, b _ rfl⟩)
theorem put2_ok : ∀ args h Q, put2_t args h Q → FSpec Try.prog 17 args h Q := named put_ok (trH_imp fun x y Q ⟨a, b⟩ => ⟨a, b _ rfl⟩)
theorem reg2_ok : ∀ args h Q, reg2_t args h Q → FSpec Try.prog 12 args h Q := named reg_ok (trH_imp fun x y Q ⟨a, b⟩ => ⟨a, b _ rfl⟩)
theorem stmt2_ok : ∀ args h Q, stmt2_t args h Q → FSpec Try.prog 15 args h Q := named stmt_ok (trH_imp fun x y Q ⟨a, b⟩ => ⟨a, b _ rfl _ rfl⟩)
theorem add2_ok : ∀ args h Q, add2_t args h Q → FSpec Try.prog 14 args h Q := named add_ok (trH_imp fun x y Q ⟨a, b⟩ => ⟨a, b _ rfl _ rfl⟩)
theorem fin2_ok : ∀ args h Q, fin2_t args h Q → FSpec Try.prog 18 args h Q := named fin_ok (trH_imp fun x y Q ⟨a, e, b⟩ => ⟨a, fun _ => b _ _ _ _ rfl rfl rfl rfl, fun h => absurd e h⟩)
theorem gokBd : GOK Try.prog (gam gBd) := gam_ok ⟨awake_ok, new_ok, reg2_ok, add2_ok, stmt2_ok, mark2_ok, put2_ok, fin2_ok, good_ok, trivial⟩
/-! ### labels -/
theorem labs_len (n i : Nat) (h : i ≤ n + 1) : (labsI n i).length = n + 1 := by unfold labsI; simp; omega
theorem labs_set (n i : Nat) (h : i ≤ n) : (labsI n i).set i (i : Int) = labsI n (i + 1) := by
  unfold labsI
  have hl : ((List.range i).map (fun j : Nat => (j : Int))).length = i := by simp
  rw [List.set_append_right _ _ (by omega), hl, Nat.sub_self, show n + 1 - i = (n + 1 - (i + 1)) + 1 by omega, List.replicate_succ, List.set_cons_zero, List.range_succ, List.map_append, List.append_assoc]
  rfl
theorem labs_at (n k : Nat) (h : k ≤ n) : (labsI n (n + 1)).getD k 0 = (k : Int) := by
  unfold labsI
  rw [Nat.sub_self, List.replicate_zero, List.append_nil, getD_at (by simp; omega)]
  simp
theorem b1_step (ops to : List Int) (b : Bld) (ls : List Int) (Q : Exit → SS → Prop) (hn : ops.length ≤ 60) (hb : b = ([], [], 4, [], -1)) (hl : ls = labsI ops.length 0)
    (hq : ∀ (b : Bld) (ls : List Int), b = ([], marksI ops.length 0, 4, [], -1) → ls = labsI ops.length (ops.length + 1) → Q (.exit 0) (⟨253, [(0, .p (.c (.row tI ops))), (1, .p (.c (.row tI to))), (5, .p (ti ops.length)), (6, .p (.c (.ptr 0 0))), (7, .p (ti 0)), (8, .p (.c (.view tI 4 0 ls.length)))], bH b ++ [.row 3 tI ls]⟩ : SS)) : W 0 Try.prog (.loop (lp Try.f4 0)) (stB1 ops to b ls ops.length 0) Q := by
  subst hb hl
  show W 0 Try.prog (.loop (lp Try.f4 0)) (stB1 ops to ([], List.replicate 0 (-1), 4, [], -1) (labsI ops.length 0) ops.length 0) Q
  refine W_all (fun i => stB1 ops to ([], List.replicate i (-1), 4, [], -1) (labsI ops.length i) ops.length i) (ops.length + 1) (fun _ => True) [0, 1, 5, 6, 7, 8, 9] [0, 1, 5, 6, 7, 8] [4] (fun i hi ho K hK => ?_)
  refine sx_ok (Λ := noLam) (Γ := gam [(13, [], label_t)]) (gam_ok ⟨label_ok, trivial⟩) _ 0 _ _ noLam_ok ?_
  rw [vc_b1L]
  refine cond_of (fun hc => ?_) (fun hc => ?_)
  · have hc : i ≤ ops.length := by have := of_decide_eq_true hc; omega
    have ei : IntKind.i64.wrap ((i : Int) + 1) = ((i + 1 : Nat) : Int) := w64n (n := i + 1) (by omega)
    rw [ei, Int.toNat_natCast, Nat.zero_add]
    have hln := labs_len ops.length i (by omega)
    have hK := hK (by omega) trivial
    have e1 : List.replicate (i + 1) (-1 : Int) = List.replicate i (-1) ++ [-1] := List.replicate_succ'
    have hln2 := labs_len ops.length (i + 1) (by omega)
    simp only [stB1] at hK
    rw [hln2, ← hln, ← labs_set ops.length i hc, e1] at hK
    have er : (List.replicate i (-1 : Int)).length = i := List.length_replicate
    refine ⟨⟨⟨rfl, rfl, rfl⟩, ⟨Nat.zero_le _, by show (List.replicate i (-1 : Int)).length ≤ _; omega, Nat.zero_le _⟩⟩, by omega, by omega, by omega, ?_⟩
    have e2 : (labsI ops.length i).set i (i : Int) = (labsI ops.length i).set i (((List.replicate i (-1 : Int)).length : Nat) : Int) := by rw [er]
    rw [e2] at hK
    exact hK
  · have hc : ¬ i ≤ ops.length := by intro h; exact of_decide_eq_false hc (by omega)
    obtain rfl : i = ops.length + 1 := by omega
    exact hq _ _ rfl rfl
/-! ### the last loop -/
theorem b5_step (r : Int) (st : List Stm) (c : List Ins) (ws : List Int) (n : Nat) (Q : Exit → SS → Prop) (hw : WayOk c ws n) (hq : Q (.exit 5) (⟨253, [(16, .p (.c (.view tIns 0 0 c.length))), (17, .p (ti r)), (18, .p (.c (.row tStm st)))], [.row 38 tIns c]⟩ : SS)) : W 0 Try.prog (.loop (lp Try.f4 2)) (stB5 r st c ws n 0) Q := by
  obtain ⟨w1, w2, w3, w4⟩ := hw
  refine W_all (stB5 r st c ws n) n (fun _ => True) [5, 12, 16, 17, 18, 20] [16, 17, 18] [4] (fun i hi ho K hK => ?_)
  refine sx_ok (Λ := noLam) gok0 _ 5 _ _ noLam_ok ?_
  rw [vc_b5L]
  refine cond_of (fun hc => ?_) (fun _ => hq)
  have hc : i < n := by have := of_decide_eq_true hc; omega
  have ei : IntKind.i64.wrap ((i : Int) + 1) = ((i + 1 : Nat) : Int) := w64n (n := i + 1) (by omega)
  rw [ei, Int.toNat_natCast, Nat.zero_add]
  obtain ⟨a1, a2, a3, a4⟩ := w4 i hc
  generalize c.getD i tIns.dft = x at a1 a2 a3 a4 ⊢
  generalize hwi : ws.getD i 0 = v at a3 a4
  have hwi : ws.getD i tI.dft = v := hwi
  rw [hwi]
  have a1 : x.2.2.2.2.1 = (i : Int) := a1
  have a2 : x.2.2.2.2.2.2.2.2.2.2.2.2.1 = 0 := a2
  have hKi := hK hc trivial
  rw [a1, a2]
  have c1 : (0 : Int) ≤ (i : Int) ∧ (i : Int) < (c.length : Int) := by omega
  have c2 : i < c.length := by omega
  have c3 : (0 : Int) ≤ (i : Int) ∧ (i : Int) < (ws.length : Int) := by omega
  have c4 : i < ws.length := by omega
  have b0 : (((i : Int) != (i : Int)) || ((0 : Int) != 0)) = false := by simp
  refine ⟨c1.1, c1.2, c2, fun _ => ⟨c1.1, c1.2, trivial⟩, fun _ => ⟨c2, trivial⟩, cond_of (fun e => ?_) (fun _ => ⟨c1.1, c1.2, c2, cond_of (fun e => ?_) (fun g1 => cond_of (fun e => ?_) (fun g2 => cond_of (fun e => ?_) (fun g3 => hKi)))⟩)⟩
  · exact absurd (b0.symm.trans e) (by decide)
  · have ht : x.2.2.2.2.2.2.2.2.2.2.1 = v := a3 (.inl (eq_of_beq e))
    rw [ht]
    exact ⟨c1.1, c1.2, c2, c3.1, c3.2, c4, cond_of (fun e => absurd e (by simp)) (fun _ => hKi)⟩
  · have ht : x.2.2.2.2.2.2.2.2.2.2.1 = v := a3 (.inr (eq_of_beq e))
    rw [ht]
    exact ⟨c1.1, c1.2, c2, c3.1, c3.2, c4, cond_of (fun e => absurd e (by simp)) (fun _ => hKi)⟩
  · have ha : x.2.2.2.2.2.2.2.2.2.2.2.1 = [defArm v, defArm (n : Int)] := a4 (eq_of_beq e)
    rw [ha]
    have h2 : (1 : Nat) < [defArm v, defArm (n : Int)].length := by show 1 < 2; decide
    have h2' : (1 : Int) < ([defArm v, defArm (n : Int)].length : Int) := by show (1 : Int) < 2; decide
    exact ⟨c1.1, c1.2, c2, fun _ => ⟨fun _ => ⟨c1.1, c1.2, trivial⟩, fun _ => ⟨c2, trivial⟩, fun _ => ⟨by decide, by omega, trivial⟩, fun _ => ⟨by omega, trivial⟩, fun _ => ⟨c3.1, c3.2, trivial⟩, fun _ => ⟨c4, trivial⟩, fun _ => ⟨c1.1, c1.2, trivial⟩, fun _ => ⟨c2, trivial⟩, fun _ => ⟨by decide, h2', trivial⟩, fun _ => ⟨h2, trivial⟩, cond_of (fun e => absurd e (by show ¬ (((2 : Int) != 2) || ((v : Int) != v) || ((n : Int) != (n : Int))) = true; simp)) (fun _ => hKi)⟩⟩

theorem marks_len (n i : Nat) (h : i ≤ n + 1) : (marksI n i).length = n + 1 := by unfold marksI; simp; omega
theorem marks_set (n i : Nat) (h : i ≤ n) : (marksI n i).set i (i : Int) = marksI n (i + 1) := by
  unfold marksI
  have hl : ((List.range i).map (fun j : Nat => (j : Int))).length = i := by simp
  rw [List.set_append_right _ _ (by omega), hl, Nat.sub_self, show n + 1 - i = (n + 1 - (i + 1)) + 1 by omega, List.replicate_succ, List.set_cons_zero, List.range_succ, List.map_append, List.append_assoc]
  rfl
theorem mark_at (n i : Nat) (h : i ≤ n) : markV (marksI n i) i (i : Int) = marksI n (i + 1) := by
  unfold markV
  rw [if_pos ⟨by omega, by rw [marks_len n i (by omega)]; omega⟩, Int.toNat_natCast]
  exact marks_set n i h
theorem way_in (to : List Int) (n i : Nat) : 0 ≤ wayK to n i ∧ wayK to n i ≤ (n : Int) := by
  unfold wayK
  have h0 : 0 ≤ IntKind.u64.wrap (to.getD i 0) := by rw [IntKind.wrap_u64]; omega
  have h1 := Int.tmod_nonneg ((n : Int) + 1) h0
  have h2 := Int.tmod_lt_of_pos (IntKind.u64.wrap (to.getD i 0)) (b := (n : Int) + 1) (by omega)
  omega
theorem codes_len (ops to : List Int) (n i : Nat) : (codesB ops to n i).length = i := by unfold codesB; simp
theorem codes_next (ops to : List Int) (n i : Nat) : codesB ops to n i ++ [insB ops to n i] = codesB ops to n (i + 1) := by unfold codesB; rw [List.range_succ, List.map_append]; rfl
theorem wants_next (to : List Int) (n i : Nat) : wants to n i ++ [wayK to n i] = wants to n (i + 1) := by unfold wants; rw [List.range_succ, List.map_append]; rfl
theorem b2_step (ops to : List Int) (b0 : Bld) (ls : List Int) (Q : Exit → SS → Prop) (hn : ops.length ≤ 60) (ht : ops.length ≤ to.length) (h0 : B2Ok ops to b0 ls [] 0)
    (hq : ∀ (b : Bld) (ws : List Int), B2Ok ops to b ls ws ops.length → Q (.exit 2) (⟨253, [(5, .p (ti ops.length)), (6, .p (.c (.ptr 0 0))), (7, .p (ti 0)), (8, .p (.c (.view tI 4 0 ls.length))), (10, .p (ti 0)), (11, .p (ti (-1))), (12, .p (.c (.view tI 5 0 ws.length)))], bH b ++ [.row 3 tI ls, .row 3 tI ws]⟩ : SS)) : W 0 Try.prog (.loop (lp Try.f4 1)) (stB2 ops to b0 ls [] ops.length 0) Q := by
  obtain ⟨rfl, rfl, _⟩ := h0
  refine W_all (fun i => stB2 ops to (codesB ops to ops.length i, marksI ops.length i, 4, [stm5], 0) (labsI ops.length (ops.length + 1)) (wants to ops.length i) ops.length i) ops.length (fun _ => True) [0, 1, 5, 6, 7, 8, 10, 11, 12, 13] [5, 6, 7, 8, 10, 11, 12] [4] (fun i hi ho K hK => ?_)
  refine sx_ok (Λ := noLam) (Γ := gam [(16, [], mark2_t), (17, [], put2_t)]) (gam_ok ⟨mark2_ok, put2_ok, trivial⟩) _ 2 _ _ noLam_ok ?_
  rw [vc_b2L, vw_all]
  refine cond_of (fun hc => ?_) (fun hc => ?_)
  · have hc : i < ops.length := by have := of_decide_eq_true hc; omega
    have ei : IntKind.i64.wrap ((i : Int) + 1) = ((i + 1 : Nat) : Int) := w64n (n := i + 1) (by omega)
    have en : IntKind.i64.wrap ((ops.length : Int) + 1) = (ops.length : Int) + 1 := w64 (by omega) (by omega)
    have eu : IntKind.u64.wrap ((ops.length : Int) + 1) = (ops.length : Int) + 1 := w64u (by omega) (by omega)
    obtain ⟨k0, k1⟩ := way_in to ops.length i
    have ek : IntKind.i64.wrap ((IntKind.u64.wrap (to.getD i tI.dft)).tmod ((ops.length : Int) + 1)) = wayK to ops.length i := w64 (by show _ ≤ wayK to ops.length i; omega) (by show wayK to ops.length i ≤ _; omega)
    have hlen := labs_len ops.length (ops.length + 1) (by omega)
    rw [ei, en, eu, Int.toNat_natCast, ek]
    have hKg : ∀ (b2 : Bld) (w : List Int), b2 = (codesB ops to ops.length (i + 1), marksI ops.length (i + 1), 4, [stm5], 0) → w = wants to ops.length (i + 1) → K (stB2 ops to b2 (labsI ops.length (ops.length + 1)) w ops.length (i + 1)) := by
      rintro _ _ rfl rfl
      exact hK hc trivial
    have hl1 : (labsI ops.length (ops.length + 1)).getD (0 + i) tI.dft = (i : Int) := by rw [Nat.zero_add]; exact labs_at _ _ (by omega)
    have hlk : (labsI ops.length (ops.length + 1)).getD (0 + (wayK to ops.length i).toNat) tI.dft = wayK to ops.length i := by
      rw [Nat.zero_add]
      have := labs_at ops.length (wayK to ops.length i).toNat (by omega)
      rw [show (((wayK to ops.length i).toNat : Nat) : Int) = wayK to ops.length i by omega] at this
      exact this
    have hln : (labsI ops.length (ops.length + 1)).getD (0 + ((ops.length : Nat) : Int).toNat) tI.dft = (ops.length : Int) := by rw [Nat.zero_add, Int.toNat_natCast]; exact labs_at _ _ (by omega)
    rw [hl1, hlk, hln]
    have hcl := codes_len ops to ops.length i
    have hml := marks_len ops.length i (by omega)
    have hwl : (wants to ops.length i).length = i := by unfold wants; simp
    refine ⟨by omega, by omega, by omega, ⟨⟨rfl, rfl, rfl⟩, ⟨by show (codesB ops to ops.length i).length ≤ _; omega, by show (marksI ops.length i).length ≤ _; omega, by show 1 ≤ 1000; decide⟩⟩, fun b1 hb1 => ?_⟩
    have hb1 : b1 = (codesB ops to ops.length i, marksI ops.length (i + 1), 4, [stm5], 0) := by
      rw [hb1]
      show (codesB ops to ops.length i, markV (marksI ops.length i) (codesB ops to ops.length i).length (i : Int), (4 : Int), [stm5], (0 : Int)) = _
      rw [hcl, mark_at _ _ (by omega)]
    subst hb1
    have hml1 := marks_len ops.length (i + 1) (by omega)
    have ok1 : okB (((codesB ops to ops.length i).length, (marksI ops.length (i + 1)).length, 4, 1, 0, ()), codesB ops to ops.length i, marksI ops.length (i + 1), [stm5], ()) := ⟨rfl, rfl, rfl⟩
    have sm1 : smallB (codesB ops to ops.length i, marksI ops.length (i + 1), 4, [stm5], 0) := ⟨by show (codesB ops to ops.length i).length ≤ _; omega, by show (marksI ops.length (i + 1)).length ≤ _; omega, by show 1 ≤ 1000; decide⟩
    have fin : ∀ (x : Ins) (b2 : Bld), Ins.setS x 0 = insB ops to ops.length i → b2 = (codesB ops to ops.length i ++ [Ins.setS x 0], marksI ops.length (i + 1), 4, [stm5], 0) → K (stB2 ops to b2 (labsI ops.length (ops.length + 1)) (wants to ops.length i ++ [wayK to ops.length i]) ops.length (i + 1)) := fun x b2 hx hb2 => hKg b2 _ (by rw [hb2, hx, codes_next]) (wants_next to ops.length i)
    refine ⟨by omega, by omega, by omega, by omega, Nat.le_refl _, by omega, by rw [List.length_append]; show ((wants to ops.length i).length + 1) * 8 ≤ _; omega, by omega, by omega, hc, by decide, cond_of (fun e => ?_) (fun e1 => cond_of (fun e => ?_) (fun e2 => cond_of (fun e => ?_) (fun e3 => ?_)))⟩
    · have e : (IntKind.u64.wrap (ops.getD i 0)).tmod 4 = 0 := eq_of_beq e
      exact ⟨k0, by omega, by omega, ⟨ok1, sm1, ⟨Nat.zero_le _, Nat.zero_le _⟩⟩, fun b2 hb2 => fin _ b2 (by unfold insB; rw [if_pos e]; rfl) hb2⟩
    · have e1 : ¬ (IntKind.u64.wrap (ops.getD i 0)).tmod 4 = 0 := fun h => by have e1 : ((IntKind.u64.wrap (ops.getD i 0)).tmod 4 == 0) = false := e1; rw [h] at e1; exact absurd e1 (by decide)
      have e : (IntKind.u64.wrap (ops.getD i 0)).tmod 4 = 1 := eq_of_beq e
      exact ⟨k0, by omega, by omega, ⟨ok1, sm1, ⟨Nat.zero_le _, Nat.zero_le _⟩⟩, fun b2 hb2 => fin _ b2 (by unfold insB; rw [if_neg e1, if_pos e]; rfl) hb2⟩
    · have e1 : ¬ (IntKind.u64.wrap (ops.getD i 0)).tmod 4 = 0 := fun h => by have e1 : ((IntKind.u64.wrap (ops.getD i 0)).tmod 4 == 0) = false := e1; rw [h] at e1; exact absurd e1 (by decide)
      have e2 : ¬ (IntKind.u64.wrap (ops.getD i 0)).tmod 4 = 1 := fun h => by have e2 : ((IntKind.u64.wrap (ops.getD i 0)).tmod 4 == 1) = false := e2; rw [h] at e2; exact absurd e2 (by decide)
      have e : (IntKind.u64.wrap (ops.getD i 0)).tmod 4 = 2 := eq_of_beq e
      exact ⟨k0, by omega, by omega, by omega, by omega, by omega, Nat.le_refl _, ⟨ok1, sm1, ⟨Nat.zero_le _, by show 2 ≤ 20; decide⟩⟩, fun b2 hb2 => fin _ b2 (by unfold insB; rw [if_neg e1, if_neg e2, if_pos e]; rfl) hb2⟩
    · have e1 : ¬ (IntKind.u64.wrap (ops.getD i 0)).tmod 4 = 0 := fun h => by have e1 : ((IntKind.u64.wrap (ops.getD i 0)).tmod 4 == 0) = false := e1; rw [h] at e1; exact absurd e1 (by decide)
      have e2 : ¬ (IntKind.u64.wrap (ops.getD i 0)).tmod 4 = 1 := fun h => by have e2 : ((IntKind.u64.wrap (ops.getD i 0)).tmod 4 == 1) = false := e2; rw [h] at e2; exact absurd e2 (by decide)
      have e3 : ¬ (IntKind.u64.wrap (ops.getD i 0)).tmod 4 = 2 := fun h => by have e3 : ((IntKind.u64.wrap (ops.getD i 0)).tmod 4 == 2) = false := e3; rw [h] at e3; exact absurd e3 (by decide)
      exact ⟨⟨ok1, sm1, ⟨Nat.zero_le _, Nat.zero_le _⟩⟩, fun b2 hb2 => fin _ b2 (by unfold insB; rw [if_neg e1, if_neg e2, if_neg e3]; rfl) hb2⟩
  · have hc : ¬ i < ops.length := by have := of_decide_eq_false hc; omega
    obtain rfl : i = ops.length := by omega
    exact hq _ _ ⟨rfl, rfl, rfl⟩

def retN (n : Nat) : Ins := (23, 0, 0, 0, (n : Int), 0, ⟨#[]⟩, (0, 0, 0, 0, ⟨#[]⟩), [], 0, 0, [], 0, (0, 0, 0), 0, 0)
def codeF (ops to : List Int) : List Ins := codesB ops to ops.length ops.length ++ [retN ops.length]
theorem codeF_len (ops to : List Int) : (codeF ops to).length = ops.length + 1 := by unfold codeF; rw [List.length_append, codes_len]; rfl
theorem codeF_at (ops to : List Int) (i : Nat) (h : i < ops.length) (d : Ins) : (codeF ops to).getD i d = insB ops to ops.length i := by
  have hl := codes_len ops to ops.length ops.length
  unfold codeF
  rw [List.getD_eq_getElem?_getD, List.getElem?_append_left (by omega)]
  unfold codesB
  simp [h]
theorem codeF_last (ops to : List Int) (d : Ins) : (codeF ops to).getD ops.length d = retN ops.length := by
  have hl := codes_len ops to ops.length ops.length
  unfold codeF
  rw [List.getD_eq_getElem?_getD, List.getElem?_append_right (by omega), hl, Nat.sub_self]
  rfl
theorem codeF_mem {ops to : List Int} {x : Ins} (h : x ∈ codeF ops to) : (∃ i, i < ops.length ∧ x = insB ops to ops.length i) ∨ x = retN ops.length := by
  unfold codeF at h
  rcases List.mem_append.1 h with h | h
  · unfold codesB at h
    obtain ⟨i, hi, rfl⟩ := List.mem_map.1 h
    exact .inl ⟨i, List.mem_range.1 hi, rfl⟩
  · exact .inr (List.mem_singleton.1 h)
theorem marks_at (n k : Nat) (h : k ≤ n) : (marksI n (n + 1)).getD k 0 = (k : Int) := by
  unfold marksI
  rw [Nat.sub_self, List.replicate_zero, List.append_nil, getD_at (by simp; omega)]
  simp
theorem place_id (n : Nat) {k : Int} (h0 : 0 ≤ k) (h1 : k ≤ (n : Int)) : placeV (marksI n (n + 1)) (n + 1) k = k := by
  have hl := marks_len n (n + 1) (by omega)
  have hk := marks_at n k.toNat (by omega)
  rw [show ((k.toNat : Nat) : Int) = k by omega] at hk
  unfold placeV
  rw [hk, if_neg]
  rintro (h | h | h) <;> omega
/-- The four kinds of instruction that are put. -/
theorem ins_cases (ops to : List Int) (n i : Nat) :
    insB ops to n i = (19, 0, 0, 0, (i : Int), 0, ⟨#[]⟩, (0, 0, 0, 0, ⟨#[]⟩), [], 0, wayK to n i, [], 0, (0, 0, 0), 0, 0) ∨
    insB ops to n i = (20, 0, 3, 0, (i : Int), 0, ⟨#[]⟩, (0, 0, 0, 0, ⟨#[]⟩), [], 0, wayK to n i, [], 0, (0, 0, 0), 0, 0) ∨
    insB ops to n i = (37, 0, 0, 0, (i : Int), 0, ⟨#[]⟩, (0, 0, 0, 0, ⟨#[]⟩), [], 0, 0, [defArm (wayK to n i), defArm (n : Int)], 0, (0, 0, 0), 0, 0) ∨
    insB ops to n i = zIns 40 (i : Int) := by
  unfold insB
  split
  · exact .inl rfl
  · split
    · exact .inr (.inl rfl)
    · split
      · exact .inr (.inr (.inl rfl))
      · exact .inr (.inr (.inr rfl))
theorem res_id (ops to : List Int) (n i : Nat) : resV (marksI n (n + 1)) (n + 1) (insB ops to n i) = (insB ops to n i, true) := by
  obtain ⟨k0, k1⟩ := way_in to n i
  have hp := place_id n k0 k1
  have hp2 := place_id n (k := (n : Int)) (by omega) (Int.le_refl _)
  rcases ins_cases ops to n i with e | e | e | e
  · rw [e]
    show (Ins.setTo _ (placeV (marksI n (n + 1)) (n + 1) (wayK to n i)), decide (0 ≤ placeV (marksI n (n + 1)) (n + 1) (wayK to n i))) = _
    rw [hp, decide_eq_true k0]
    rfl
  · rw [e]
    show (Ins.setTo _ (placeV (marksI n (n + 1)) (n + 1) (wayK to n i)), decide (0 ≤ placeV (marksI n (n + 1)) (n + 1) (wayK to n i))) = _
    rw [hp, decide_eq_true k0]
    rfl
  · rw [e]
    have hr : rArmsV (marksI n (n + 1)) (n + 1) [defArm (wayK to n i), defArm (n : Int)] = [defArm (wayK to n i), defArm (n : Int)] := by
      show [Arm.setTo _ (placeV (marksI n (n + 1)) (n + 1) (wayK to n i)), Arm.setTo _ (placeV (marksI n (n + 1)) (n + 1) (n : Int))] = _
      rw [hp, hp2]
      rfl
    show (Ins.setA _ (rArmsV (marksI n (n + 1)) (n + 1) [defArm (wayK to n i), defArm (n : Int)]), (rArmsV (marksI n (n + 1)) (n + 1) [defArm (wayK to n i), defArm (n : Int)]).all fun a => decide (0 ≤ a.to)) = _
    rw [hr]
    have : ([defArm (wayK to n i), defArm (n : Int)].all fun a => decide (0 ≤ a.to)) = true := by
      show (decide (0 ≤ wayK to n i) && (decide (0 ≤ (n : Int)) && true)) = true
      rw [decide_eq_true k0, decide_eq_true (by omega : (0 : Int) ≤ (n : Int))]; rfl
    rw [this]
    rfl
  · rw [e]; rfl
theorem res_codeF (ops to : List Int) : resL (marksI ops.length (ops.length + 1)) (ops.length + 1) (codeF ops to) = codeF ops to ∧ resA (marksI ops.length (ops.length + 1)) (ops.length + 1) (codeF ops to) = true := by
  have key : ∀ x ∈ codeF ops to, resV (marksI ops.length (ops.length + 1)) (ops.length + 1) x = (x, true) := fun x hx => by
    rcases codeF_mem hx with ⟨i, _, rfl⟩ | rfl
    · exact res_id ops to ops.length i
    · rfl
  constructor
  · unfold resL
    conv => rhs; rw [← List.map_id (codeF ops to)]
    exact List.map_congr_left fun x hx => by rw [key x hx]; rfl
  · unfold resA
    rw [List.all_eq_true]
    exact fun x hx => by rw [key x hx]
theorem small_F (ops to : List Int) : ∀ x ∈ codeF ops to, smallI x := fun x hx => by
  rcases codeF_mem hx with ⟨i, _, rfl⟩ | rfl
  · rcases ins_cases ops to ops.length i with e | e | e | e <;> rw [e]
    · exact ⟨Nat.zero_le _, Nat.zero_le _⟩
    · exact ⟨Nat.zero_le _, Nat.zero_le _⟩
    · exact ⟨Nat.zero_le _, by show 2 ≤ 20; decide⟩
    · exact ⟨Nat.zero_le _, Nat.zero_le _⟩
  · exact ⟨Nat.zero_le _, Nat.zero_le _⟩
def bldF (ops to : List Int) : Bld := (codeF ops to, marksI ops.length (ops.length + 1), 4, [stm5], 0)
theorem ends_F (ops to : List Int) : endsV ((codeF ops to).getD ((codeF ops to).length - 1) tIns.dft) = true := by rw [codeF_len, Nat.add_sub_cancel, codeF_last]; rfl
theorem next_F (ops to : List Int) (h : ops.length ≤ 60) : NextIn (codeF ops to) := by
  have hr := res_codeF ops to
  have hl := codeF_len ops to
  have := next_in (b := bldF ops to) (small_F ops to) (by show (codeF ops to).length ≤ _; omega) (by show resA (marksI ops.length (ops.length + 1)) (codeF ops to).length (codeF ops to) = true; rw [hl]; exact hr.2) (ends_F ops to)
  have e : resL (bldF ops to).2.1 (bldF ops to).1.length (bldF ops to).1 = codeF ops to := by show resL (marksI ops.length (ops.length + 1)) (codeF ops to).length (codeF ops to) = _; rw [hl]; exact hr.1
  rw [e] at this
  exact this
def proF (c : List Ins) : Pro := (⟨#[]⟩, 0, 0, [], [], 4, c, 0, [(5, 0, 0, 0)], [], [])
theorem good_F (ops to : List Int) (h : ops.length ≤ 60) : goodV (proF (codeF ops to)) = true := by
  have hl := codeF_len ops to
  have hne : (codeF ops to).isEmpty = false := by
    cases hc : codeF ops to with
    | nil => rw [hc] at hl; simp at hl
    | cons a l => rfl
  have hnx := next_F ops to h
  have hall : ((List.range (proF (codeF ops to)).code.length).all fun k => isGoodV (proF (codeF ops to)) ((proF (codeF ops to)).code.getD k tIns.dft) k) = true := by
    rw [List.all_eq_true]
    intro k hk
    have hk : k < (codeF ops to).length := List.mem_range.1 hk
    have hn : (nextV ((codeF ops to).getD k tIns.dft) k).any (badW (encP (proF (codeF ops to)))) = false := by
      rw [List.any_eq_false]
      intro r hr
      have := (hnx k hk).2 r hr
      show ¬ (decide (r < 0) || decide (((codeF ops to).length : Int) ≤ r)) = true
      rw [Bool.or_eq_true, decide_eq_true_eq, decide_eq_true_eq]
      omega
    show isGoodV (proF (codeF ops to)) ((codeF ops to).getD k tIns.dft) k = true
    have hx : (∃ i, i < ops.length ∧ (codeF ops to).getD k tIns.dft = insB ops to ops.length i) ∨ (codeF ops to).getD k tIns.dft = retN ops.length := codeF_mem (by rw [getD_at hk]; exact List.getElem_mem _)
    unfold isGoodV
    rw [hn]
    rcases hx with ⟨i, _, e⟩ | e
    · rw [e]
      rcases ins_cases ops to ops.length i with e | e | e | e <;> rw [e] <;> rfl
    · rw [e]; rfl
  unfold goodV
  rw [hall]
  have hend : endsV (lastI (proF (codeF ops to))) = true := ends_F ops to
  rw [hend]
  have hne : (proF (codeF ops to)).code.isEmpty = false := hne
  rw [hne]
  rfl
theorem way_F (ops to : List Int) (h : ops.length ≤ 60) : WayOk (codeF ops to) (wants to ops.length ops.length) ops.length := by
  refine ⟨codeF_len ops to, by unfold wants; simp, h, fun i hi => ?_⟩
  have hw : (wants to ops.length ops.length).getD i 0 = wayK to ops.length i := by
    unfold wants
    rw [getD_at (by simpa using hi)]
    simp
  rw [codeF_at ops to i hi, hw]
  rcases ins_cases ops to ops.length i with e | e | e | e <;> rw [e]
  · exact ⟨rfl, rfl, fun _ => rfl, fun h => absurd h (by show ¬ (19 : Int) = 37; decide)⟩
  · exact ⟨rfl, rfl, fun _ => rfl, fun h => absurd h (by show ¬ (20 : Int) = 37; decide)⟩
  · exact ⟨rfl, rfl, fun h => absurd h (by show ¬ ((37 : Int) = 19 ∨ (37 : Int) = 20); decide), fun _ => rfl⟩
  · exact ⟨rfl, rfl, fun h => absurd h (by show ¬ ((40 : Int) = 19 ∨ (40 : Int) = 20); decide), fun h => absurd h (by show ¬ (40 : Int) = 37; decide)⟩

theorem build_law (ops to : List Int) : FSpec Try.prog 4 [.c (.row tI ops), .c (.row tI to)] [] (fun r h' => r = .p (.c (.bool true))) := by
  refine spec_body (Γ := gam gBd) (Λ := lam [(0, b1_l), (2, b2_l), (5, b5_l)]) gokBd Try.func4 rfl (lokl (l := [(0, lp Try.f4 0), (2, lp Try.f4 1), (5, lp Try.f4 2)]) ⟨lam_ok (fun z Q ⟨a1, a2, a3⟩ hq => b1_step z.1.1 z.1.2 z.2.1 z.2.2 Q a1 a2 a3 hq), lam_ok (fun z Q ⟨⟨a1, a2⟩, a3⟩ hq => b2_step z.1.1 z.1.2 z.2.1 z.2.2 Q a1 a2 a3 hq), lam_ok (fun z Q a hq => b5_step z.1.1 z.1.2 z.2.1 z.2.2.1 z.2.2.2 Q a hq), trivial⟩) ?_
  show body Try.prog (gam gBd) (lam [(0, b1_l), (2, b2_l), (5, b5_l)]) Try.f4 [.c (.row tI ops), .c (.row tI to)] [] _
  rw [vc_lbuild]
  intro _
  refine cond_of (fun _ => rfl) (fun hbig _ => ?_)
  rw [Bool.or_eq_false_iff] at hbig
  have hn : ops.length ≤ 60 := by
    have := of_decide_eq_false hbig.1
    have : ¬ (60 : Int) < (ops.length : Int) := this
    omega
  have ht : ops.length ≤ to.length := by
    have := of_decide_eq_false hbig.2
    omega
  have en : IntKind.i64.wrap ((ops.length : Int) + 1) = (ops.length : Int) + 1 := w64 (by omega) (by omega)
  have et : ((ops.length : Int) + 1).toNat = ops.length + 1 := by omega
  rw [en, et]
  refine ⟨⟨⟨rfl, rfl, rfl⟩, ⟨Nat.zero_le _, Nat.zero_le _, Nat.zero_le _⟩⟩, fun b hb => ?_⟩
  subst hb
  have h8 : ((8 : Nat) : Int) * ((ops.length : Int) + 1) ≤ 281474976710656 := by omega
  refine ⟨by omega, Int.le_refl _, h8, ((ops, to), ([], [], 4, [], -1), List.replicate (ops.length + 1) 0), ?_, ⟨hn, rfl, ?_⟩, fun b ls hb hls => ?_⟩
  · first
      | rfl
      | (simp only [List.length_replicate]; done)
      | (simp only [List.length_replicate]; rfl)
  · unfold labsI; rfl
  have hb : b = ([], marksI ops.length 0, 4, [], -1) := hb
  have hls : ls = labsI ops.length (ops.length + 1) := hls
  subst hb
  have hm0 := marks_len ops.length 0 (by omega)
  refine ⟨⟨⟨rfl, rfl, rfl⟩, ⟨Nat.zero_le _, by show (marksI ops.length 0).length ≤ _; omega, Nat.zero_le _⟩⟩, fun b hb k hk => ⟨⟨rfl, rfl, rfl⟩, fun b2 hb2 w hw => ?_⟩⟩
  have hb : b = ([], marksI ops.length 0, 4, [stm5], -1) := hb
  have hk : k = 0 := hk
  subst hb hk
  have hw : w = -1 := hw
  have hb2 : b2 = ([], marksI ops.length 0, 4, [stm5], 0) := hb2
  subst hw hb2
  refine ⟨((ops, to), ([], marksI ops.length 0, 4, [stm5], 0), ls), rfl, ⟨⟨hn, ht⟩, ⟨rfl, hls, rfl⟩⟩, fun b ws hB => ?_⟩
  obtain ⟨hb, hl, hws⟩ : B2Ok ops to b ls ws ops.length := hB
  subst hb hl hws
  have hll := labs_len ops.length (ops.length + 1) (by omega)
  have hcl := codes_len ops to ops.length ops.length
  have hml := marks_len ops.length ops.length (by omega)
  have hml1 := marks_len ops.length (ops.length + 1) (by omega)
  have hln : (labsI ops.length (ops.length + 1)).getD (0 + ((ops.length : Nat) : Int).toNat) tI.dft = (ops.length : Int) := by rw [Nat.zero_add, Int.toNat_natCast]; exact labs_at _ _ (by omega)
  dsimp only
  refine ⟨by omega, by omega, by rw [Int.toNat_natCast]; omega, ⟨⟨rfl, rfl, rfl⟩, ⟨by show (codesB ops to ops.length ops.length).length ≤ _; omega, by show (marksI ops.length ops.length).length ≤ _; omega, by show 1 ≤ 1000; decide⟩⟩, fun b2 hb2 => ?_⟩
  have hb2 : b2 = (codesB ops to ops.length ops.length, marksI ops.length (ops.length + 1), 4, [stm5], 0) := by
    rw [hb2, hln]
    show (codesB ops to ops.length ops.length, markV (marksI ops.length ops.length) (codesB ops to ops.length ops.length).length (ops.length : Int), (4 : Int), [stm5], (0 : Int)) = _
    rw [hcl, mark_at _ _ (Nat.le_refl _)]
  subst hb2
  refine ⟨⟨⟨rfl, rfl, rfl⟩, ⟨by show (codesB ops to ops.length ops.length).length ≤ _; omega, by show (marksI ops.length (ops.length + 1)).length ≤ _; omega, by show 1 ≤ 1000; decide⟩, ⟨Nat.zero_le _, Nat.zero_le _⟩⟩, fun b hb => ?_⟩
  have hb : b = bldF ops to := hb
  subst hb
  have hcF := codeF_len ops to
  have hrF := res_codeF ops to
  have eF : resL (bldF ops to).2.1 (bldF ops to).1.length (bldF ops to).1 = codeF ops to := by show resL (marksI ops.length (ops.length + 1)) (codeF ops to).length (codeF ops to) = _; rw [hcF]; exact hrF.1
  have aF : resA (bldF ops to).2.1 (bldF ops to).1.length (bldF ops to).1 = true := by show resA (marksI ops.length (ops.length + 1)) (codeF ops to).length (codeF ops to) = _; rw [hcF]; exact hrF.2
  have hfin : finE (bldF ops to) = 0 := by
    unfold finE
    rw [if_neg, if_neg]
    · rintro (h | h)
      · exact absurd h (by show ¬ (65536 : Int) < 4; decide)
      · have h : (65536 : Int) < ((codeF ops to).length : Int) := h
        omega
    · rintro (h | h | h)
      · have h : (codeF ops to).length = 0 := h
        omega
      · have h : endsV ((codeF ops to).getD ((codeF ops to).length - 1) tIns.dft) = false := h
        rw [ends_F] at h; cases h
      · rw [aF] at h; cases h
  refine ⟨⟨⟨rfl, rfl, rfl⟩, ⟨by show (codeF ops to).length ≤ _; omega, by show (marksI ops.length (ops.length + 1)).length ≤ _; omega, by show 1 ≤ 1000; decide⟩, small_F ops to⟩, hfin, fun b3 c r s _ hc hr hs => ?_⟩
  have hc : c = codeF ops to := by rw [hc]; exact eF
  have hr : r = 4 := hr
  have hs : s = [(5, 0, 0, 0)] := hs
  subst hc hr hs
  rw [hcF]
  have hcond : ((((0 : Int) != 0) || (((ops.length + 1 : Nat) : Int) != (ops.length : Int) + 1) || ((4 : Int) != 4) || ((1 : Int) != 1) || ((-1 : Int) != -1) || ((0 : Int) != 0) || ((0 : Int) != 0))) = false := by
    have : (((ops.length + 1 : Nat) : Int) != (ops.length : Int) + 1) = false := by
      rw [bne_eq_false_iff_eq]; omega
    rw [this]; rfl
  refine cond_of (fun e => ?_) (fun _ => ?_)
  · exfalso
    rw [en] at e
    have := hcond.symm.trans e
    cases this
  · rw [← hcF]
    have hsmall : smallP (proF (codeF ops to)) := ⟨by show (codeF ops to).length ≤ _; omega, small_F ops to⟩
    have hgood := good_F ops to hn
    have hv : vw (codeF ops to) 0 (codeF ops to).length = codeF ops to := vw_all _
    refine ⟨((4, [(5, 0, 0, 0)]), codeF ops to, wants to ops.length ops.length, ops.length), rfl, way_F ops to hn, ?_⟩
    dsimp only
    rw [hv]
    refine ⟨by omega, hsmall, ?_⟩
    show SV.p (.c (.bool (goodV (proF (codeF ops to))))) = SV.p (.c (.bool true))
    rw [hgood]
end Go.Proofs.Ytkpepieepdmjpaa.Ch
