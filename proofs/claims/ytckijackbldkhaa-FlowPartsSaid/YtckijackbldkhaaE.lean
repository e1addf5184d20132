/- Chapter 11 (code): registers that are read, written: proved. No condition. -/
import Derived.Test.YtckijackbldkhaaDV
namespace Go.Proofs.Ytckijackbldkhaa.Ch
open Go Go.Proofs Go.Proofs.Ytckijackbldkhaa.Sx
set_option linter.unusedVariables false
set_option linter.unusedSimpArgs false

theorem run_len (d n : Int) : (runV d n).length ≤ 65536 := by unfold runV; simp; omega
theorem fm_len {α : Type} {f : α → List Int} {B : Nat} (hf : ∀ x, (f x).length ≤ B) : ∀ l : List α, (l.flatMap f).length ≤ l.length * B
  | [] => by simp
  | a :: l => by
    have := fm_len hf l
    have := hf a
    rw [List.flatMap_cons, List.length_append, List.length_cons, Nat.succ_mul]
    omega
theorem fm_step {α : Type} {f : α → List Int} {l : List α} {i : Nat} (h : i < l.length) (d : α) : (l.take i).flatMap f ++ f (l.getD i d) = (l.take (i + 1)).flatMap f := by
  rw [List.take_add_one, List.getElem?_eq_getElem h, List.flatMap_append]
  simp [List.getD_eq_getElem?_getD, List.getElem?_eq_getElem h]
theorem wArm_len (a : Arm) : (wArm a).length ≤ 65537 := by
  unfold wArm
  split
  · exact Nat.le_succ_of_le (run_len _ _)
  · exact Nat.zero_le _
theorem rArm_len (a : Arm) : (rArm a).length ≤ 65537 := by
  unfold rArm
  split
  · have := run_len a.2.2.1 a.2.2.2.1
    simp; omega
  · split <;> simp
theorem gokRun : GOK Try.prog (gam [(45, [], run_t)]) := gam_ok ⟨run_ok, trivial⟩
theorem wr_step (l : List Arm) (Q : Exit → SS → Prop) (hl : l.length ≤ 20) (hq : Q (.exit 1) (⟨68, [(3, .p (.c (.view tI 0 0 (l.flatMap wArm).length)))], [.row 3 tI (l.flatMap wArm)]⟩ : SS)) : W 0 Try.prog (.loop (lp Try.f31 0)) (stWr1 l) Q := by
  refine W_ownF 3 tI 3 ?_
  show W 0 Try.prog (.loop (lp Try.f31 0)) (stWr l ((l.take 0).flatMap wArm) 0) Q
  refine W_all (fun i => stWr l ((l.take i).flatMap wArm) i) l.length (fun _ => True) [3, 50, 51, 52] [3] [] (fun i hi ho K hK => ?_)
  refine sx_ok (Λ := noLam) gokRun _ 1 _ _ noLam_ok ?_
  rw [vc_writesL, vw_all]
  refine cond_of (fun hc => ?_) (fun hc => ?_)
  · have hc : i < l.length := by have := of_decide_eq_true hc; omega
    have ei : IntKind.i64.wrap ((i : Int) + 1) = ((i + 1 : Nat) : Int) := w64n (n := i + 1) (by omega)
    have hs := fm_step (f := wArm) hc tArm.dft
    have hb := fm_len wArm_len (l.take (i + 1))
    have hlt : (l.take (i + 1)).length = i + 1 := by rw [List.length_take]; omega
    rw [hlt] at hb
    have hK := hK hc trivial
    rw [ei]
    rw [← hs] at hb hK
    generalize hx : l.getD i tArm.dft = x at hb hK
    have hx : l.getD ((i : Int)).toNat tArm.dft = x := hx
    rw [hx]
    generalize (l.take i).flatMap wArm = out at hb hK ⊢
    refine ⟨by omega, by omega, by omega, cond_of (fun h => ?_) (fun h => ?_)⟩
    · have h : x.1 = 2 := eq_of_beq h
      have e : wArm x = runV x.2.2.1 x.2.2.2.1 := by unfold wArm; rw [if_pos h]
      rw [e] at hb hK
      exact ⟨by omega, by omega, hK⟩
    · have h : ¬ x.1 = 2 := by intro e; rw [e] at h; exact absurd h (by decide)
      have e : wArm x = [] := by unfold wArm; rw [if_neg h]
      rw [e, List.append_nil] at hK
      exact hK
  · have hc : ¬ i < l.length := by have := of_decide_eq_false hc; omega
    obtain rfl : i = l.length := by omega
    rw [List.take_length]
    exact hq
theorem ar_step (l : List Arm) (Q : Exit → SS → Prop) (hl : l.length ≤ 20) (hq : Q (.exit 0) (⟨35, [(2, .p (.c (.view tI 0 0 (l.flatMap rArm).length)))], [.row 3 tI (l.flatMap rArm)]⟩ : SS)) : W 0 Try.prog (.loop (lp Try.f47 0)) (stAr1 l) Q := by
  refine W_ownF 3 tI 2 ?_
  show W 0 Try.prog (.loop (lp Try.f47 0)) (stAr l ((l.take 0).flatMap rArm) 0) Q
  refine W_all (fun i => stAr l ((l.take i).flatMap rArm) i) l.length (fun _ => True) [2, 5, 6, 7] [2] [] (fun i hi ho K hK => ?_)
  refine sx_ok (Λ := noLam) gokRun _ 0 _ _ noLam_ok ?_
  rw [vc_armsL]
  simp only [vw_all]
  refine cond_of (fun hc => ?_) (fun hc => ?_)
  · have hc : i < l.length := by have := of_decide_eq_true hc; omega
    have ei : IntKind.i64.wrap ((i : Int) + 1) = ((i + 1 : Nat) : Int) := w64n (n := i + 1) (by omega)
    have hs := fm_step (f := rArm) hc tArm.dft
    have hb := fm_len rArm_len (l.take (i + 1))
    have hlt : (l.take (i + 1)).length = i + 1 := by rw [List.length_take]; omega
    rw [hlt] at hb
    have hK := hK hc trivial
    rw [ei]
    rw [← hs] at hb hK
    generalize hx : l.getD i tArm.dft = x at hb hK
    have hx : l.getD ((i : Int)).toNat tArm.dft = x := hx
    rw [hx]
    generalize (l.take i).flatMap rArm = out at hb hK ⊢
    rw [List.length_append] at hb
    refine ⟨by omega, by omega, by omega, cond_of (fun h => ?_) (fun h => cond_of (fun h2 => ?_) (fun h2 => ?_))⟩
    · have h : x.1 = 1 := eq_of_beq h
      have e : rArm x = [x.2.1] ++ runV x.2.2.1 x.2.2.2.1 := by unfold rArm; rw [if_pos h]; rfl
      rw [e, ← List.append_assoc] at hK
      rw [e, List.length_append] at hb
      have h1 : ([x.2.1] : List Int).length = 1 := rfl
      rw [h1] at hb
      have l1 : (out ++ [x.2.1]).length = out.length + 1 := by simp
      have l2 : (out ++ [x.2.1] ++ runV x.2.2.1 x.2.2.2.1).length = out.length + 1 + (runV x.2.2.1 x.2.2.2.1).length := by rw [List.length_append, l1]
      exact ⟨Nat.le_refl _, by omega, by rw [l1]; omega, by omega, by rw [l2]; omega, hK⟩
    · have h : ¬ x.1 = 1 := by intro e; rw [e] at h; exact absurd h (by decide)
      have h2 : x.1 = 2 := eq_of_beq h2
      have e : rArm x = [x.2.1] := by unfold rArm; rw [if_neg h, if_pos h2]
      rw [e] at hK hb
      have h1 : ([x.2.1] : List Int).length = 1 := rfl
      refine ⟨Nat.le_refl _, by omega, by rw [List.length_append]; omega, hK⟩
    · have h : ¬ x.1 = 1 := by intro e; rw [e] at h; exact absurd h (by decide)
      have h2 : ¬ x.1 = 2 := by intro e; rw [e] at h2; exact absurd h2 (by decide)
      have e : rArm x = [] := by unfold rArm; rw [if_neg h, if_neg h2]
      rw [e, List.append_nil] at hK
      exact hK
  · have hc : ¬ i < l.length := by have := of_decide_eq_false hc; omega
    obtain rfl : i = l.length := by omega
    rw [List.take_length]
    exact hq
theorem arms_ok : ∀ args h Q, arms_t args h Q → FSpec Try.prog 47 args h Q := trH_ok fun ((l, _) : List Arm × Unit) _ Q ⟨hl, h⟩ => by
  refine spec_row 3 tI rfl (spec_body (Λ := lam [(0, ar_l)]) gokRun Try.func47 rfl (lokl ⟨lam_ok (fun l Q hl hq => ar_step l Q hl hq), trivial⟩) ?_)
  show body Try.prog (gam [(45, [], run_t)]) (lam [(0, ar_l)]) Try.f47 [.c (.row tArm l)] [] _
  rw [vc_arms]
  exact fun _ => ⟨l, rfl, hl, _, .inr (.inr ⟨3, rfl, rfl⟩), h⟩
theorem writes_ok : ∀ args h Q, writes_t args h Q → FSpec Try.prog 31 args h Q := trH_ok fun ((x, _) : Ins × Unit) _ Q ⟨hl, h⟩ => by
  refine spec_row 3 tI rfl (spec_body (Λ := lam [(1, wr_l)]) gokRun Try.func31 rfl (lokl ⟨lam_ok (fun l Q hl hq => wr_step l Q hl hq), trivial⟩) ?_)
  show body Try.prog (gam [(45, [], run_t)]) (lam [(1, wr_l)]) Try.f31 [.agg (toCV tIns x)] [] _
  rw [vc_writes]
  dsimp only at hl h
  have key : ∀ xs, writesV x = xs → Q (.p (.c (.row tI xs))) [] := fun xs e => by rw [← e]; exact h
  clear h
  repeat' (first | refine cond_of (fun hk => ?_) (fun _ => ?_))
  all_goals try (rename_i hk; have hk := eq_of_beq hk)
  all_goals first
    | exact ⟨[x.2.1], .inr (.inr ⟨3, rfl, rfl⟩), key _ (by unfold writesV Ins.op; rw [hk]; rfl)⟩
    | exact ⟨runV x.2.1 x.2.2.2.2.1, .inl rfl, key _ (by unfold writesV Ins.op; rw [hk]; rfl)⟩
    | exact ⟨runV x.2.1 x.2.2.2.2.2.1, .inl rfl, key _ (by unfold writesV Ins.op; rw [hk]; rfl)⟩
    | exact fun _ => ⟨_, rfl, hl.2, x.arms.flatMap wArm, .inr (.inr ⟨3, rfl, rfl⟩), key _ (by unfold writesV Ins.op; rw [hk]; rfl)⟩
    | skip
  refine ⟨[], .inr (.inl ⟨rfl, rfl, rfl⟩), key _ ?_⟩
  unfold writesV inL Ins.op
  simp_all
theorem re_step (x : Ins) (Q : Exit → SS → Prop) (hl : smallI x) (hq : Q (.exit 1) (⟨110, [(3, .p (.c (.view tI 0 0 (x.a :: x.args.flatMap (fun a => runV a x.m)).length)))], [.row 3 tI (x.a :: x.args.flatMap (fun a => runV a x.m))]⟩ : SS)) : W 0 Try.prog (.loop (lp Try.f30 0)) (stRe x [x.2.2.1] 0) Q := by
  have h0 : [x.2.2.1] = [x.2.2.1] ++ (x.args.take 0).flatMap (fun a => runV a x.m) := by simp
  rw [h0]
  refine W_all (fun i => stRe x ([x.2.2.1] ++ (x.args.take i).flatMap (fun a => runV a x.m)) i) x.args.length (fun _ => True) [1, 3, 91, 92, 93] [3] [] (fun i hi ho K hK => ?_)
  refine sx_ok (Λ := noLam) gokRun _ 1 _ _ noLam_ok ?_
  rw [vc_readsL, vw_all]
  have hl := hl.1
  refine cond_of (fun hc => ?_) (fun hc => ?_)
  · have hc : i < x.args.length := by have := of_decide_eq_true hc; exact Int.ofNat_lt.1 this
    have ei : IntKind.i64.wrap ((i : Int) + 1) = ((i + 1 : Nat) : Int) := w64n (n := i + 1) (by omega)
    have hs := fm_step (f := fun a => runV a x.m) hc (0 : Int)
    have hb := fm_len (f := fun a => runV a x.m) (fun a => run_len a x.m) (x.args.take (i + 1))
    have hlt : (x.args.take (i + 1)).length = i + 1 := by rw [List.length_take]; omega
    rw [hlt] at hb
    have hK := hK hc trivial
    rw [ei]
    rw [← hs] at hb hK
    rw [← List.append_assoc] at hK
    have l1 : ([x.2.2.1] ++ (x.args.take i).flatMap (fun a => runV a x.m) ++ runV (x.args.getD i 0) x.m).length = 1 + ((x.args.take i).flatMap (fun a => runV a x.m) ++ runV (x.args.getD i 0) x.m).length := by simp [Nat.add_assoc, Nat.add_comm, Nat.add_left_comm]
    exact ⟨by omega, Int.ofNat_lt.2 hc, hc, by omega, by show (List.length ([x.2.2.1] ++ (x.args.take i).flatMap (fun a => runV a x.m) ++ runV (x.args.getD i 0) x.m)) * 8 ≤ _; rw [l1]; omega, hK⟩
  · have hc : ¬ i < x.args.length := by intro h; exact of_decide_eq_false hc (Int.ofNat_lt.2 h)
    obtain rfl : i = x.args.length := by omega
    rw [List.take_length]
    exact hq
theorem gokRe : GOK Try.prog (gam [(45, [], run_t), (46, [], cloneI_t), (47, [], arms_t)]) := gam_ok ⟨run_ok, cloneI_ok, arms_ok, trivial⟩
theorem reads_ok : ∀ args h Q, reads_t args h Q → FSpec Try.prog 30 args h Q := trH_ok fun ((x, _) : Ins × Unit) _ Q ⟨hl, h⟩ => by
  refine spec_row 3 tI rfl (spec_body (Λ := lam [(1, re_l)]) gokRe Try.func30 rfl (lokl ⟨lam_ok (fun x Q hl hq => re_step x Q hl hq), trivial⟩) ?_)
  show body Try.prog (gam [(45, [], run_t), (46, [], cloneI_t), (47, [], arms_t)]) (lam [(1, re_l)]) Try.f30 [.agg (toCV tIns x)] [] _
  rw [vc_reads]
  dsimp only at hl h
  have key : ∀ xs, readsV x = xs → Q (.p (.c (.row tI xs))) [] := fun xs e => by rw [← e]; exact h
  clear h
  have ha : x.args.length ≤ 20 := hl.1
  have hlen : ∀ l : List Int, l.length ≤ 65536 → ([x.2.2.1] ++ l).length * 8 ≤ 140737488355328 := fun l hl => by rw [List.length_append]; show (1 + _) * 8 ≤ _; omega
  have kA : ∀ k : Int, x.1 = k → (k = 22 ∨ k = 23 ∨ k = 38 ∨ k = 28) → readsV x = x.args := fun k hk h => by
    unfold readsV Ins.op; rw [hk]; rcases h with rfl | rfl | rfl | rfl <;> rfl
  have kB : ∀ k : Int, x.1 = k → (k = 24 ∨ k = 25) → readsV x = if x.a = -1 then x.args else x.a :: x.args := fun k hk h => by
    unfold readsV Ins.op; rw [hk]; rcases h with rfl | rfl <;> rfl
  repeat' (first | refine cond_of (fun hk => ?_) (fun _ => ?_))
  all_goals try (rename_i hk; have hk := eq_of_beq hk)
  all_goals first
    | exact ⟨[x.2.2.1], .inr (.inr ⟨3, rfl, rfl⟩), key _ (by unfold readsV Ins.op; rw [hk]; rfl)⟩
    | exact ⟨runV x.2.2.1 x.2.2.2.2.1, .inl rfl, key _ (by unfold readsV Ins.op; rw [hk]; rfl)⟩
    | exact ⟨[x.2.2.1, x.2.2.2.1], .inr (.inr ⟨3, rfl, rfl⟩), key _ (by unfold readsV Ins.op; rw [hk]; rfl)⟩
    | exact ⟨⟨Nat.le_refl _, hlen _ (run_len _ _), [x.2.2.1] ++ runV x.2.2.2.1 x.2.2.2.2.1, .inr (.inr ⟨3, rfl, rfl⟩), key _ (by unfold readsV Ins.op; rw [hk]; rfl)⟩, Nat.le_refl _, hlen _ (run_len _ _), [x.2.2.1] ++ runV x.2.2.2.1 x.2.2.2.2.1, .inr (.inr ⟨3, rfl, rfl⟩), key _ (by unfold readsV Ins.op; rw [hk]; rfl)⟩
    | exact ⟨Nat.le_refl _, hlen _ (by show x.args.length ≤ _; omega), [x.2.2.1] ++ x.args, .inr (.inr ⟨3, rfl, rfl⟩), key _ (by unfold readsV Ins.op; rw [hk]; rfl)⟩
    | exact ⟨by show x.args.length ≤ _; omega, x.args, .inl rfl, key _ (kA _ hk (by decide))⟩
    | exact fun _ => ⟨x, rfl, hl, _, .inr (.inr ⟨3, rfl, rfl⟩), key (x.a :: x.args.flatMap (fun a => runV a x.m)) (by unfold readsV Ins.op; rw [hk]; rfl)⟩
    | exact ⟨hl.2, x.arms.flatMap rArm, .inl rfl, key _ (by unfold readsV Ins.op; rw [hk]; rfl)⟩
    | exact ⟨by show x.args.length ≤ _; omega, x.args, .inl rfl, key _ (by rw [kB _ (eq_of_beq (by assumption : (x.1 == (24 : Int)) = true)) (by decide), if_pos (show x.a = -1 from hk)])⟩
    | exact ⟨by show x.args.length ≤ _; omega, x.args, .inl rfl, key _ (by rw [kB _ (eq_of_beq (by assumption : (x.1 == (25 : Int)) = true)) (by decide), if_pos (show x.a = -1 from hk)])⟩
    | skip
  · rename_i hn
    refine ⟨Nat.le_refl _, hlen _ (by show x.args.length ≤ _; omega), [x.2.2.1] ++ x.args, .inr (.inr ⟨3, rfl, rfl⟩), key _ ?_⟩
    rw [kB 24 (eq_of_beq (by assumption)) (by decide), if_neg (show ¬ x.a = -1 from fun e => by have e : x.2.2.1 = -1 := e; rw [e] at hn; exact absurd hn (by decide))]
    rfl
  · rename_i hn
    refine ⟨Nat.le_refl _, hlen _ (by show x.args.length ≤ _; omega), [x.2.2.1] ++ x.args, .inr (.inr ⟨3, rfl, rfl⟩), key _ ?_⟩
    rw [kB 25 (eq_of_beq (by assumption)) (by decide), if_neg (show ¬ x.a = -1 from fun e => by have e : x.2.2.1 = -1 := e; rw [e] at hn; exact absurd hn (by decide))]
    rfl
  · refine ⟨[], .inr (.inl ⟨rfl, rfl, rfl⟩), key _ ?_⟩
    unfold readsV inL Ins.op
    simp_all
end Go.Proofs.Ytckijackbldkhaa.Ch
