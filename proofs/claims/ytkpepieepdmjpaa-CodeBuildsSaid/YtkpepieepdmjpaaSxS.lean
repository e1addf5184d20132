/- A machine of abstract states over the model, part S: shapes of blocks; loops that are run out; contracts in which a value decides. No condition. -/
import Derived.Test.YtkpepieepdmjpaaSxQ
import Derived.Laws.Bits64
namespace Go.Proofs.Ytkpepieepdmjpaa.Sx
open Go
set_option linter.unusedVariables false
set_option linter.unusedSimpArgs false

inductive HS where
  | cells (t : TypeId) (cs : List CS) | row (e : TypeId) (t : Ty) | map (ka : Bool) (kt : Ty) (va : Bool) (vt : Ty) | nest (e : TypeId) (bx : Option TypeId) (fs : List FT)
abbrev HS.T : HS → Type
  | .cells _ cs => CS.TL cs | .row _ t => List t.T | .map _ kt _ vt => List (kt.T × vt.T) | .nest _ _ fs => List (FsT fs)
def HS.enc : (s : HS) → s.T → HB
  | .cells t cs, x => .cells t (CS.encL cs x) | .row e t, xs => .row e t xs | .map ka kt va vt, es => .map ka kt va vt es | .nest e bx fs, xs => .nest e bx fs xs none
def HS.dec : (s : HS) → HB → Option s.T
  | .cells t cs, .cells t' l => bif Nat.beq t' t then CS.decL cs l else none
  | .row e t, .row e' t' xs => bif Nat.beq e' e then (if h : t' = t then some (h ▸ xs) else none) else none
  | .map ka kt va vt, .map ka' kt' va' vt' es => bif (ka' == ka) && (va' == va) then (if h : kt' = kt ∧ vt' = vt then some (h.1 ▸ h.2 ▸ es) else none) else none
  | .nest e bx fs, .nest e' bx' fs' xs none => bif Nat.beq e' e && decide (bx' = bx) then (if h : fs' = fs then some (h ▸ xs) else none) else none
  | _, _ => none
theorem HS.dec_ok : ∀ (s : HS) (c : HB) (x : s.T), s.dec c = some x → c = s.enc x := by
  intro s c x h
  unfold HS.dec at h
  split at h
  · rename_i t cs t' l
    cases hk : Nat.beq t' t with
    | false => rw [hk] at h; cases h
    | true => rw [hk] at h; have := beq_eq hk; subst this; rw [CS.decL_ok cs l x h]; rfl
  · rename_i e t e' t' xs
    cases hk : Nat.beq e' e with
    | false => rw [hk] at h; cases h
    | true =>
      rw [hk] at h; have := beq_eq hk; subst this
      simp only [cond_true] at h
      split at h
      · rename_i ht; subst ht; cases h; rfl
      · cases h
  · rename_i ka kt va vt ka' kt' va' vt' es
    cases hk : ((ka' == ka) && (va' == va)) with
    | false => rw [hk] at h; cases h
    | true =>
      rw [hk] at h
      simp only [Bool.and_eq_true, beq_iff_eq] at hk
      obtain ⟨rfl, rfl⟩ := hk
      simp only [cond_true] at h
      split at h
      · rename_i ht
        obtain ⟨rfl, rfl⟩ := ht
        cases h; rfl
      · cases h
  · rename_i e bx fs e' bx' fs' xs
    cases hk : (Nat.beq e' e && decide (bx' = bx)) with
    | false => rw [hk] at h; cases h
    | true =>
      rw [hk] at h
      simp only [Bool.and_eq_true, decide_eq_true_eq] at hk
      obtain ⟨h1, rfl⟩ := hk
      have := beq_eq h1
      subst this
      simp only [cond_true] at h
      split at h
      · rename_i ht; subst ht; cases h; rfl
      · cases h
  · cases h
abbrev HS.TL : List HS → Type
  | [] => Unit
  | s :: r => s.T × HS.TL r
def HS.encL : (l : List HS) → HS.TL l → List HB
  | [], _ => []
  | s :: r, x => s.enc x.1 :: HS.encL r x.2
def HS.decL : (l : List HS) → List HB → Option (HS.TL l)
  | [], [] => some ()
  | s :: r, c :: cs => match s.dec c, HS.decL r cs with
    | some x, some xs => some (x, xs)
    | _, _ => none
  | _, _ => none
theorem HS.decL_ok : ∀ (l : List HS) (h : List HB) (x : HS.TL l), HS.decL l h = some x → h = HS.encL l x
  | [], [], x, h => rfl
  | s :: r, c :: cs, x, h => by
    simp only [HS.decL] at h
    split at h
    · rename_i y ys h1 h2
      cases h
      rw [HS.dec_ok s c y h1, HS.decL_ok r cs ys h2]
      rfl
    · cases h
  | [], _ :: _, _, h => by simp [HS.decL] at h
  | _ :: _, [], _, h => by simp [HS.decL] at h
/-- A contract: the shapes of the arguments, of the blocks, what is asked and what comes of it. -/
def trH (as : List AS) (hs : List HS) (I : AS.TL as → HS.TL hs → (SV → List HB → Prop) → Prop) : Tr := trOf as (HS.decL hs) I
theorem trH_ok {P : Program} {f : FuncId} {as : List AS} {hs : List HS} {I : AS.TL as → HS.TL hs → (SV → List HB → Prop) → Prop}
    (h : ∀ x y Q, I x y Q → FSpec P f (AS.encL as x) (HS.encL hs y) Q) : ∀ args hh Q, trH as hs I args hh Q → FSpec P f args hh Q :=
  tr_ok (he := HS.encL hs) (HS.decL_ok hs) h
/-- One contract where the first argument is nil, another one where it isn't. -/
def orNil (t0 t : Tr) : Tr := fun args h Q => match args with
  | .c .nilp :: _ => t0 args h Q
  | _ => t args h Q
theorem orNil_ok {P : Program} {f : FuncId} {t0 t : Tr} (h0 : ∀ args h Q, t0 args h Q → FSpec P f args h Q) (h1 : ∀ args h Q, t args h Q → FSpec P f args h Q) : ∀ args h Q, orNil t0 t args h Q → FSpec P f args h Q := by
  intro args h Q hh
  unfold orNil at hh
  split at hh
  · exact h0 _ _ _ hh
  · exact h1 _ _ _ hh
def cloIn (f : FuncId) : List PV → Bool
  | [] => false
  | .clo g _ :: r => Nat.beq g f || cloIn f r
  | .c (.func g) :: r => Nat.beq g f || cloIn f r
  | _ :: r => cloIn f r
/-- One contract where the function f is handed over, another one where it isn't. -/
def orClo (f : FuncId) (t0 t : Tr) : Tr := fun args h Q => bif cloIn f args then t0 args h Q else t args h Q
theorem orClo_ok {P : Program} {g : FuncId} {f : FuncId} {t0 t : Tr} (h0 : ∀ args h Q, t0 args h Q → FSpec P g args h Q) (h1 : ∀ args h Q, t args h Q → FSpec P g args h Q) : ∀ args h Q, orClo f t0 t args h Q → FSpec P g args h Q := by
  intro args h Q hh
  unfold orClo at hh
  cases hc : cloIn f args with
  | true => rw [hc] at hh; exact h0 _ _ _ hh
  | false => rw [hc] at hh; exact h1 _ _ _ hh
/-- One contract where so many blocks are handed over, another one else. -/
def orLen (n : Nat) (t0 t : Tr) : Tr := fun args h Q => bif Nat.beq h.length n then t0 args h Q else t args h Q
theorem orLen_ok {P : Program} {g : FuncId} {n : Nat} {t0 t : Tr} (h0 : ∀ args h Q, t0 args h Q → FSpec P g args h Q) (h1 : ∀ args h Q, t args h Q → FSpec P g args h Q) : ∀ args h Q, orLen n t0 t args h Q → FSpec P g args h Q := by
  intro args h Q hh
  unfold orLen at hh
  cases hc : Nat.beq h.length n with
  | true => rw [hc] at hh; exact h0 _ _ _ hh
  | false => rw [hc] at hh; exact h1 _ _ _ hh
def failT : Tr := fun _ _ _ => False
theorem failT_ok {P : Program} {g : FuncId} : ∀ args h Q, failT args h Q → FSpec P g args h Q := fun _ _ _ h => h.elim

/-! ### loops that are run out -/
section
variable (P : Program) (Γ : Gam) (Λ : Lam)
def unr (c : Code) (k : Nat) : Nat → SS → (Exit → SS → Prop) → Prop
  | 0, _, _ => False
  | n + 1, s, Q => sx P Γ Λ c k s (thenQ (fun s' => unr c k n s' Q) Q)
end
theorem unr_ok {N : Nat} {P : Program} {Γ : Gam} {Λ : Lam} (hΓ : GOK P Γ) {c : Code} {k n : Nat} (hl : LOK N P Λ (loopsOf c k)) {s : SS} {Q : Exit → SS → Prop} (h : unr P Γ Λ c k n s Q) : W N P (.loop c) s Q := by
  intro π ρ a w S
  refine wp_loop_ghost (fun n a' w' => ∃ s' π' ρ', Sat π' ρ' s' a' w' ∧ Step N ρ s.hp w π ρ' s'.hp w' π' ∧ unr P Γ Λ c k n s' Q) n ⟨s, π, ρ, S, Step.refl _ _ _ _ _, h⟩ ?_
  rintro m a1 w1 ⟨s1, π1, ρ1, S1, St1, h1⟩
  cases m with
  | zero => exact h1.elim
  | succ m =>
    refine wp_mono (sx_ok (N := N) hΓ c k s1 _ hl h1 π1 ρ1 a1 w1 S1) ?_
    rintro e a2 w2 ⟨π2, ρ2, s2, S2, St2, hq⟩
    cases e with
    | normal => exact ⟨m, Nat.lt_succ_self m, s2, π2, ρ2, S2, St1.trans St2, hq⟩
    | exit id => exact ⟨π2, ρ2, s2, S2, St1.trans St2, hq⟩
    | goto l => exact ⟨π2, ρ2, s2, S2, St1.trans St2, hq⟩
    | ret => exact ⟨π2, ρ2, s2, S2, St1.trans St2, hq⟩
    | panic c => exact ⟨π2, ρ2, s2, S2, St1.trans St2, hq⟩
    | outgrown => exact ⟨π2, ρ2, s2, S2, St1.trans St2, hq⟩
theorem unr_all {N : Nat} {P : Program} {Γ : Gam} {Λ : Lam} (hΓ : GOK P Γ) {c : Code} {k n : Nat} (hl : LOK N P Λ (loopsOf c k)) : ∀ s Q, unr P Γ Λ c k n s Q → W N P (.loop c) s Q := fun _ _ h => unr_ok hΓ hl h
/-- A function's loops, by their place in the text. -/
noncomputable def lp (fn : Func) (i : Nat) : Code := match nth (loopL fn) i with | some p => p.2 | none => .skip
noncomputable def lpIn (c : Code) (k i : Nat) : Code := match nth (loopsOf c k) i with | some p => p.2 | none => .skip
theorem cond_of {c : Bool} {A B : Prop} (h1 : c = true → A) (h2 : c = false → B) : bif c then A else B := by cases c; exact h2 rfl; exact h1 rfl
theorem w64 {x : Int} (h1 : -9223372036854775808 ≤ x) (h2 : x ≤ 9223372036854775807) : IntKind.i64.wrap x = x := by rw [IntKind.wrap_i64]; omega
theorem w64n {n : Nat} (h : n ≤ 9223372036854775807) : IntKind.i64.wrap (n : Int) = (n : Int) := w64 (by omega) (by omega)
theorem w64u {x : Int} (h1 : 0 ≤ x) (h2 : x < 18446744073709551616) : IntKind.u64.wrap x = x := by rw [IntKind.wrap_u64]; omega
abbrev i64 (x : Int) : Prop := -9223372036854775808 ≤ x ∧ x ≤ 9223372036854775807
theorem wf_i64 {n : Int} (h : (Lit.int .i64 n).wf = true) : i64 n := by
  simpa [Lit.wf, IntKind.min, IntKind.max, IntKind.signed, IntKind.bits] using h
theorem getD_at {α : Type} {l : List α} {i : Nat} (h : i < l.length) (d : α) : l.getD i d = l[i] := by
  rw [List.getD_eq_getElem?_getD, List.getElem?_eq_getElem h]; rfl
/-- What a whole number leaves over, seen without a sign. -/
noncomputable def remU (x : Int) (n : Nat) : Nat := (IntKind.i64.wrap ((IntKind.u64.wrap x).tmod (IntKind.u64.wrap (n : Int)))).toNat
theorem remU_eq (x : Int) (n : Nat) (h0 : 0 < n) (h1 : n ≤ 1000000000) : IntKind.i64.wrap ((IntKind.u64.wrap x).tmod (IntKind.u64.wrap (n : Int))) = (remU x n : Int) ∧ remU x n < n := by
  unfold remU
  rw [w64u (x := (n : Int)) (by omega) (by omega)]
  have h2 : 0 ≤ IntKind.u64.wrap x := by rw [IntKind.wrap_u64]; omega
  have h3 : 0 ≤ (IntKind.u64.wrap x).tmod (n : Int) := Int.tmod_nonneg _ h2
  have h4 : (IntKind.u64.wrap x).tmod (n : Int) < (n : Int) := Int.tmod_lt_of_pos _ (by omega)
  rw [w64 (by omega) (by omega)]
  omega
theorem gok0 {P : Program} : GOK P (gam []) := gam_ok trivial
abbrev ti (n : Int) : PV := .c (.int .i64 n)
abbrev tb (b : Bool) : PV := .c (.bool b)
abbrev tI : Ty := .int .i64

/-! ### a nil slice, seen as a row of one's own without elements -/
/-- Cell i of block k, where it is nil, is a row of the block's own: in a state. -/
theorem W_ownH {N : Nat} {P : Program} {c : Code} {s : SS} {Q : Exit → SS → Prop} (e : TypeId) (t : Ty) (k i : Nat) (h : W N P c { s with hp := ownH t s.hp.length k i s.hp ++ [.row e t ([] : List t.T)] } Q) : W N P c s Q := by
  intro π ρ a w S
  have H0 := hsat_ownH S.hs t s.hp.length k i
  refine wp_mono (h π ρ a w ⟨hsat_nil H0 e t, S.fs, S.df, S.nt, S.on⟩) ?_
  rintro x a2 w2 ⟨π2, ρ2, s2, S2, St2, hq⟩
  exact ⟨π2, ρ2, s2, S2, (step_nil (step_ownH (Step.refl N ρ s.hp w π) t s.hp.length k i) H0 _).trans St2, hq⟩
def ownG (t : Ty) (n : Nat) : SV → SV | .p x => .p (ownP t n x) | s => s
theorem slot_ownG {π : Pers} {ρ : Env} {T : Array Value} {t : Ty} {n k : Nat} {v : SV} (h : SlotIs π ρ T k v) : SlotIs π ρ T k (ownG t n v) := by
  cases v with
  | p x => obtain ⟨u, h1, h2⟩ := h; exact ⟨u, h1, denp_ownP h2⟩
  | gd j b x => exact h
  | tup l => exact h
def ownF (t : Ty) (n i : Nat) : List (Nat × SV) → List (Nat × SV)
  | [] => []
  | (j, u) :: r => (j, bif Nat.beq j i then ownG t n u else u) :: ownF t n i r
theorem ownF_lk {t : Ty} {n i : Nat} : ∀ {fr : List (Nat × SV)} {k : Nat} {v : SV}, lk (ownF t n i fr) k = some v → ∃ u, lk fr k = some u ∧ (v = u ∨ v = ownG t n u)
  | [], k, v, h => by simp [ownF, lk] at h
  | (j, u) :: r, k, v, h => by
    simp only [ownF, lk] at h ⊢
    cases hj : Nat.beq j k with
    | true =>
      rw [hj] at h
      simp only [cond_true, Option.some.injEq] at h
      subst h
      refine ⟨u, rfl, ?_⟩
      cases Nat.beq j i with
      | true => exact .inr rfl
      | false => exact .inl rfl
    | false => rw [hj] at h; exact ownF_lk h
theorem ownF_none {t : Ty} {n i : Nat} : ∀ {fr : List (Nat × SV)} {k : Nat}, lk fr k = none → lk (ownF t n i fr) k = none
  | [], k, h => rfl
  | (j, u) :: r, k, h => by
    simp only [ownF, lk] at h ⊢
    cases hj : Nat.beq j k with
    | true => rw [hj] at h; cases h
    | false => rw [hj] at h; exact ownF_none h
theorem ownF_once {t : Ty} {n i : Nat} : ∀ {fr : List (Nat × SV)}, once fr = true → once (ownF t n i fr) = true
  | [], _ => rfl
  | (j, u) :: r, h => by
    simp only [once, ownF, Bool.and_eq_true] at h ⊢
    refine ⟨?_, ownF_once h.2⟩
    have h1 : lk r j = none := by cases hl : lk r j with | none => rfl | some x => rw [hl] at h; exact absurd h.1 (by simp)
    rw [ownF_none h1]
/-- Slot i, where it is nil, is a row of one's own: in a state. -/
theorem W_ownF {N : Nat} {P : Program} {c : Code} {s : SS} {Q : Exit → SS → Prop} (e : TypeId) (t : Ty) (i : Nat) (h : W N P c { s with fr := ownF t s.hp.length i s.fr, hp := s.hp ++ [.row e t ([] : List t.T)] } Q) : W N P c s Q := by
  intro π ρ a w S
  refine wp_mono (h π ρ a w ⟨hsat_nil S.hs e t, fun k v hk => ?_, S.df, S.nt, ownF_once S.on⟩) ?_
  · obtain ⟨u, h1, h2⟩ := ownF_lk hk
    have h3 := S.fs k u h1
    rcases h2 with rfl | rfl
    · exact h3
    · exact slot_ownG h3
  rintro x a2 w2 ⟨π2, ρ2, s2, S2, St2, hq⟩
  exact ⟨π2, ρ2, s2, S2, (step_nil (Step.refl N ρ s.hp w π) S.hs _).trans St2, hq⟩
def ownA (t : Ty) (n i : Nat) : SV → SV | .p (.agg l) => .p (.agg (ownAt (ownV t n) i l)) | s => s
/-- Cell i of the struct that is answered, where it is nil, is a row of the caller's own. -/
theorem spec_ownA {P : Program} {f : FuncId} {args : List PV} {h : List HB} {Q : SV → List HB → Prop} (e : TypeId) (t : Ty) (i : Nat) (hs : FSpec P f args h fun r h' => Q r h' ∨ Q (ownA t h'.length i r) (h' ++ [.row e t ([] : List t.T)])) : FSpec P f args h Q := by
  intro π ρ w vs hh ha
  refine (hs π ρ w vs hh ha).mono ?_
  rintro _ w' ⟨v, π', ρ', r, h', rfl, h2, h3, h4, h5⟩
  rcases h5 with h5 | h5
  · exact ⟨v, π', ρ', r, h', rfl, h2, h3, h4, h5⟩
  refine ⟨v, π', ρ', _, _, rfl, ?_, hsat_nil h3 e t, step_nil h4 h3 _, h5⟩
  cases r with
  | p x =>
    cases x with
    | c y => exact h2
    | agg l => obtain ⟨us, h6, h7⟩ := h2; exact ⟨us, h6, all2_ownAt (fun _ _ h => den_ownV h) i h7⟩
    | clo f l => exact h2
  | tup l => exact h2
  | gd j b x => exact h2.elim
/-- What is answered, if its slices are read alone from now on. -/
theorem spec_frz {P : Program} {f : FuncId} {args : List PV} {h : List HB} {Q : SV → List HB → Prop} (b0 : Nat) (bs0 : List Nat) (hs : FSpec P f args h fun r h' => noCells h' (b0 :: bs0) = true ∧ ∃ p ob bs' p', r = .p p ∧ brP ⟨0, [], h'⟩ p = some (ob, bs', p') ∧ allP ob ∧ (∀ x, x ∈ bs' → x ∈ b0 :: bs0) ∧ Q (.p (renP (keepN (b0 :: bs0)) p')) (goneB (b0 :: bs0) 0 h')) : FSpec P f args h Q := by
  intro π ρ w vs hh ha
  refine (hs π ρ w vs hh ha).mono ?_
  rintro _ w' ⟨v, π', ρ', r, h', rfl, h2, h3, h4, h5, p, ob, bs', p', rfl, h6, h7, h8, h9⟩
  have S : Sat π' ρ' ⟨0, [], h'⟩ (⟨#[], []⟩ : Act) w' := ⟨h3, fun i v hi => by simp [lk] at hi, rfl, rfl, rfl⟩
  obtain ⟨π2, ρ2, S2, St2, hp, _⟩ := sat_frz (N := h.length) S h5
  exact ⟨v, π2, ρ2, .p (renP (keepN (b0 :: bs0)) p'), _, rfl, hp _ _ (brP_ok S h2 h6 h7 h8), S2.hs, h4.trans St2, h9⟩
/-- What is answered, seen as data. -/
theorem spec_data {P : Program} {f : FuncId} {args : List PV} {h : List HB} {Q : SV → List HB → Prop} (t : Ty) (hs : FSpec P f args h fun r h' => ∃ l x, r = .p (.agg l) ∧ fromCV t l = some (x, []) ∧ Q (.p (.agg (toCV t x))) h') : FSpec P f args h Q := by
  intro π ρ w vs hh ha
  refine (hs π ρ w vs hh ha).mono ?_
  rintro _ w' ⟨v, π', ρ', r, h', rfl, h2, h3, h4, l, x, rfl, h6, h7⟩
  obtain ⟨us, rfl, h8⟩ := h2
  refine ⟨_, π', ρ', .p (.agg (toCV t x)), _, rfl, ⟨us, rfl, ?_⟩, h3, h4, h7⟩
  have := fromCV_le t l [] x π' ρ' us h6 h8
  simpa using this
/-- What is answered, seen as data: no block is left. -/
theorem spec_data0 {P : Program} {f : FuncId} {args : List PV} {Q : SV → List HB → Prop} (t : Ty) (hs : FSpec P f args [] fun r h' => ∃ l x, r = .p (.agg l) ∧ fromCV t l = some (x, []) ∧ Q (.p (.agg (toCV t x))) []) : FSpec P f args [] Q := by
  intro π ρ w vs hh ha
  refine (hs π ρ w vs hh ha).mono ?_
  rintro _ w' ⟨v, π', ρ', r, h', rfl, h2, h3, h4, l, x, rfl, h6, h7⟩
  obtain ⟨us, rfl, h8⟩ := h2
  obtain ⟨v1, v2, rfl, h9, h10⟩ := fromCV_ok t l us x [] h8 h6
  have e : v2 = [] := by cases v2 with | nil => rfl | cons _ _ => exact h10.elim
  subst e
  refine ⟨_, π', fun _ => none, .p (.agg (toCV t x)), [], rfl, ⟨_, rfl, ?_⟩, ⟨fun k it hk => by simp at hk, fun k hk => by simp at hk, fun k k' g hk => by simp at hk, fun k g hk => by simp at hk, h3.pers, fun _ _ => rfl⟩, ⟨h4.os, h4.tape, h4.output, h4.size, h4.block, fun k g hk => by simp at hk, h4.pmono, h4.pfresh, fun k it κ hk => by simp at hk⟩, h7⟩
  rw [List.append_nil]
  exact toCV_ok t x v1 h9
/-! ### rows that stay where they are -/
/-- What is answered by a call that was handed no block, seen otherwise. -/
theorem spec_conv {P : Program} {f : FuncId} {args : List PV} {Q : SV → List HB → Prop} (hs : FSpec P f args [] fun r h' => ∃ r2 h2, (∀ π ρ v, DenS π ρ r v → DenS π ρ r2 v) ∧ h2.length = h'.length ∧ (∀ k it2, h2[k]? = some it2 → ∃ it, h'[k]? = some it ∧ ∀ π ρ w, HBIs π ρ w k it → HBIs π ρ w k it2) ∧ Q r2 h2) : FSpec P f args [] Q := by
  intro π ρ w vs hh ha
  refine (hs π ρ w vs hh ha).mono ?_
  rintro _ w' ⟨v, π', ρ', r, h', rfl, h2, h3, h4, r2, hh2, h5, h6, h7, h8⟩
  refine ⟨v, π', ρ', r2, hh2, rfl, h5 _ _ _ h2, ⟨fun k it hk => ?_, fun k hk => h3.lt k (by omega), fun k k' g hk hk' => h3.inj k k' g (by omega) (by omega), fun k g hk => h3.apart k g (by omega), h3.pers, fun k hk => h3.out k (by omega)⟩, ⟨h4.os, h4.tape, h4.output, h4.size, h4.block, fun k g hk => h4.fresh k g (by omega), h4.pmono, h4.pfresh, fun k it κ hk => by simp at hk⟩, h8⟩
  obtain ⟨it0, h9, h10⟩ := h7 k it hk
  exact h10 _ _ _ (h3.items k it0 h9)
/-- A slice that is answered, with a row that stays where it is. -/
theorem spec_fix {P : Program} {f : FuncId} {args : List PV} {Q : SV → List HB → Prop} (e : TypeId) (t : Ty) (hs : FSpec P f args [] fun r h' => ∃ xs : List t.T, r = .p (.c (.view t 0 0 xs.length)) ∧ h' = [.row e t xs] ∧ Q (.p (.c (.view (.fix t) 0 0 xs.length))) [.row e (.fix t) xs]) : FSpec P f args [] Q := by
  refine spec_conv (hs.mono ?_)
  rintro r h' ⟨xs, rfl, rfl, hq⟩
  refine ⟨.p (.c (.view (.fix t) 0 0 xs.length)), [.row e (.fix t) xs], fun π ρ v h => h, rfl, fun k it hk => ?_, hq⟩
  cases k with
  | zero => simp only [List.getElem?_cons_zero, Option.some.injEq] at hk; subst hk; exact ⟨_, rfl, fun π ρ w h => h⟩
  | succ k => simp at hk
/-- A struct that is answered, with a slice the row of which may move again. -/
theorem spec_unfixA {P : Program} {f : FuncId} {args : List PV} {Q : SV → List HB → Prop} (e : TypeId) (t : Ty) (hs : FSpec P f args [] fun r h' => ∃ (c : Bool) (xs : List t.T), r = .p (.agg [.bool c, .view (.fix t) 0 0 xs.length]) ∧ h' = [.row e (.fix t) xs] ∧ Q (.p (.agg [.bool c, .view t 0 0 xs.length])) [.row e t xs]) : FSpec P f args [] Q := by
  refine spec_conv (hs.mono ?_)
  rintro r h' ⟨c, xs, rfl, rfl, hq⟩
  refine ⟨.p (.agg [.bool c, .view t 0 0 xs.length]), [.row e t xs], fun π ρ v ⟨us, h1, h2⟩ => ⟨us, h1, ?_⟩, rfl, fun k it hk => ?_, hq⟩
  · match us, h2 with
    | [x, y], h2 => exact ⟨h2.1, (show DenC π ρ (.view t 0 0 xs.length) y from h2.2.1), trivial⟩
  cases k with
  | zero => simp only [List.getElem?_cons_zero, Option.some.injEq] at hk; subst hk; exact ⟨_, rfl, fun π ρ w h => h⟩
  | succ k => simp at hk
def fxC (b : Nat) : CV → CV
  | .view t b' a n => bif Nat.beq b' b then .view (.fix t) b' a n else .view t b' a n
  | c => c
theorem den_fxC {π : Pers} {ρ : Env} (b : Nat) (c : CV) (v : Value) (h : DenC π ρ c v) : DenC π ρ (fxC b c) v := by
  cases c with
  | view t b' a n =>
    simp only [fxC]
    cases Nat.beq b' b with
    | true => exact h
    | false => exact h
  | _ => exact h
def fxH (b j : Nat) : HB → HB
  | .cells T cs => .cells T (cs.map (fxC b))
  | .row e t xs => bif Nat.beq j b then .row e (.fix t) xs else .row e t xs
  | it => it
def fxL (b : Nat) : Nat → List HB → List HB
  | _, [] => []
  | j, it :: r => fxH b j it :: fxL b (j + 1) r
theorem fxL_get {b : Nat} : ∀ {h : List HB} {j k : Nat} {it : HB}, (fxL b j h)[k]? = some it → ∃ x, h[k]? = some x ∧ it = fxH b (j + k) x
  | [], j, k, it, h => by simp [fxL] at h
  | x :: r, j, 0, it, h => by simp only [fxL, List.getElem?_cons_zero, Option.some.injEq] at h; exact ⟨x, rfl, h.symm⟩
  | x :: r, j, k + 1, it, h => by
    simp only [fxL, List.getElem?_cons_succ] at h ⊢
    obtain ⟨y, h1, h2⟩ := fxL_get h
    exact ⟨y, h1, by rw [h2, show j + 1 + k = j + (k + 1) by omega]⟩
theorem fxL_len {b : Nat} : ∀ {h : List HB} {j : Nat}, (fxL b j h).length = h.length
  | [], _ => rfl
  | _ :: r, j => by simp only [fxL, List.length_cons, fxL_len (h := r)]
theorem fxL_get' {b : Nat} : ∀ {h : List HB} {j k : Nat} {x : HB}, h[k]? = some x → (fxL b j h)[k]? = some (fxH b (j + k) x)
  | [], j, k, x, h => by simp at h
  | y :: r, j, 0, x, h => by simp only [List.getElem?_cons_zero, Option.some.injEq] at h; subst h; rfl
  | y :: r, j, k + 1, x, h => by
    simp only [fxL, List.getElem?_cons_succ] at h ⊢
    rw [fxL_get' h, show j + 1 + k = j + (k + 1) by omega]
theorem hb_fxH {π : Pers} {ρ : Env} {w : World} {k b j : Nat} {it : HB} (h : HBIs π ρ w k it) : HBIs π ρ w k (fxH b j it) := by
  cases it with
  | cells T cs =>
    obtain ⟨g, vs, h1, h2, h3⟩ := h
    refine ⟨g, vs, by rw [List.length_map]; exact h1, h2, ?_⟩
    exact all2_map (fun c v hc => den_fxC b c v hc) h3
  | row e t xs =>
    simp only [fxH]
    cases Nat.beq j b with
    | true => exact h
    | false => exact h
  | _ => exact h
/-- The row of the block b stays where it is from now on. -/
theorem W_fix {N : Nat} {P : Program} {c : Code} {s : SS} {Q : Exit → SS → Prop} (b : Nat) (hN : N ≤ b) (h : W N P c { s with hp := fxL b 0 s.hp } Q) : W N P c s Q := by
  intro π ρ a w S
  have hl : (fxL b 0 s.hp).length = s.hp.length := fxL_len
  have H : HSat π ρ (fxL b 0 s.hp) w := by
    refine ⟨fun k it hk => ?_, fun k hk => S.hs.lt k (by omega), fun k k' g hk hk' => S.hs.inj k k' g (by omega) (by omega), fun k g hk => S.hs.apart k g (by omega), S.hs.pers, fun k hk => S.hs.out k (by omega)⟩
    obtain ⟨x, hx, rfl⟩ := fxL_get hk
    exact hb_fxH (S.hs.items k x hx)
  have St : Step N ρ s.hp w π ρ (fxL b 0 s.hp) w π := by
    refine ⟨rfl, rfl, rfl, Nat.le_refl _, fun _ _ _ => rfl, fun k g hk hr => .inl ⟨k, by omega, hr⟩, fun _ _ h => h, fun _ _ h => .inl h, fun k it κ hk hit hκ => ⟨rfl, _, fxL_get' hit, ?_⟩⟩
    cases it with
    | cells T cs => exact hκ
    | row e t xs =>
      simp only [fxH]
      have : Nat.beq (0 + k) b = false := by
        cases hb : Nat.beq (0 + k) b with
        | false => rfl
        | true => have := beq_eq hb; omega
      rw [this]; exact hκ
    | map ka kt va vt es => exact hκ
    | nest e bx fs xs hole => exact hκ
    | gone => exact hκ
  refine wp_mono (h π ρ a w ⟨H, S.fs, S.df, S.nt, S.on⟩) ?_
  rintro x a2 w2 ⟨π2, ρ2, s2, S2, St2, hq⟩
  exact ⟨π2, ρ2, s2, S2, St.trans St2, hq⟩
/-- What is answered beside a number: a slice with a row that stays where it is, if it is read alone from now on. -/
theorem spec_frzT {P : Program} {f : FuncId} {args : List PV} {h : List HB} {Q : SV → List HB → Prop} (b : Nat) (hb : h.length ≤ b) (e : TypeId) (t : Ty) (ht : isFix t = false)
    (hs : FSpec P f args h fun r h' => Q r h' ∨ ∃ (xs : List t.T) (k : IntKind) (n : Int), r = .tup [.c (.view (.fix t) b 0 xs.length), .c (.int k n)] ∧ h'[b]? = some (.row e (.fix t) xs) ∧ Q (.tup [.c (.row t xs), .c (.int k n)]) (goneB [b] 0 (h'.set b (.row e t xs)))) : FSpec P f args h Q := by
  intro π ρ w vs hh ha
  refine (hs π ρ w vs hh ha).mono ?_
  rintro _ w' ⟨v, π', ρ', r, h', rfl, h2, h3, h4, h5⟩
  rcases h5 with h5 | ⟨xs, k, n, rfl, h6, h7⟩
  · exact ⟨v, π', ρ', r, h', rfl, h2, h3, h4, h5⟩
  have hbl := (List.getElem?_eq_some_iff.1 h6).1
  have hget : (h'.set b (.row e t xs))[b]? = some (.row e t xs) := by simp [hbl]
  have H : HSat π' ρ' (h'.set b (.row e t xs)) w' := by
    refine ⟨fun j it hj => ?_, fun j hj => h3.lt j (by simpa using hj), fun j j' g hj hj' => h3.inj j j' g (by simpa using hj) (by simpa using hj'), fun j g hj => h3.apart j g (by simpa using hj), h3.pers, fun j hj => h3.out j (by simpa using hj)⟩
    by_cases hjb : j = b
    · subst hjb
      rw [hget] at hj
      cases hj
      exact h3.items j (.row e (.fix t) xs) h6
    · rw [List.getElem?_set_ne (fun e => hjb e.symm)] at hj
      exact h3.items j it hj
  have St : Step h.length ρ h w π ρ' (h'.set b (.row e t xs)) w' π' := by
    refine ⟨h4.os, h4.tape, h4.output, h4.size, h4.block, fun j g hj => h4.fresh j g (by simpa using hj), h4.pmono, h4.pfresh, fun j it κ hj hit hκ => ?_⟩
    obtain ⟨e1, it', e2, e3⟩ := h4.keep j it κ hj hit hκ
    exact ⟨e1, it', by rw [List.getElem?_set_ne (by omega)]; exact e2, e3⟩
  have S : Sat π' ρ' ⟨0, [], h'.set b (.row e t xs)⟩ (⟨#[], []⟩ : Act) w' := ⟨H, fun i v hi => by simp [lk] at hi, rfl, rfl, rfl⟩
  have hnc : noCells (h'.set b (.row e t xs)) [b] = true := by
    simp only [noCells, Bool.and_true]
    rw [nth_eq, hget]
    cases t <;> first | rfl | cases ht
  obtain ⟨π2, ρ2, S2, St2, hp, hc⟩ := sat_frz (N := h.length) S (bs := [b]) hnc
  obtain ⟨us, rfl, h8⟩ := h2
  match us, h8 with
  | [x, y], h8 =>
    have hbr : brP ⟨0, [], h'.set b (.row e t xs)⟩ (.c (.view t b 0 xs.length)) = some ([0 + xs.length ≤ xs.length], [b], .c (.row t (vw xs 0 xs.length))) := by
      simp only [brP, brC]
      rw [nth_eq, hget]
      simp
    have hx : DenP π2 ρ2 (.c (.row t (vw xs 0 xs.length))) x := hp _ _ (brP_ok S (bs := [b]) (show DenP π' ρ' (.c (.view t b 0 xs.length)) x from h8.1) hbr ⟨by omega, trivial⟩ (fun z hz => hz))
    have hy : DenP π2 ρ2 (.c (.int k n)) y := hc (.int k n) y h8.2.1
    have ev : vw xs 0 xs.length = xs := by simp [vw]
    rw [ev] at hx
    exact ⟨_, π2, ρ2, .tup [.c (.row t xs), .c (.int k n)], _, rfl, ⟨[x, y], rfl, hx, hy, trivial⟩, S2.hs, St.trans St2, h7⟩
/-- A loop that looks at one after the other. -/
theorem W_all {N : Nat} {P : Program} {body : Code} {Q : Exit → SS → Prop} (st : Nat → SS) (n : Nat) (ok : Nat → Prop) (L L1 L2 : List Nat)
    (h : ∀ i, i ≤ n → (∀ j, j < i → ok j) → ∀ K : SS → Prop, (i < n → ok i → K (st (i + 1))) → W N P body (st i) (thenQ (cq N L K) (cQE N L1 L2 Q))) : W N P (.loop body) (st 0) Q := by
  refine W_loopE (N := N) (P := P) (body := body) (Q := Q) st (fun i => i ≤ n ∧ ∀ j, j < i → ok j) (fun i => n - i) L L1 L2 (fun i ⟨hi, ho⟩ => ?_) 0 ⟨Nat.zero_le _, fun j hj => absurd hj (Nat.not_lt_zero _)⟩
  refine h i hi ho _ (fun hlt hok => ⟨i + 1, rfl, ⟨hlt, fun j hj => ?_⟩, by omega⟩)
  rcases Nat.lt_succ_iff_lt_or_eq.1 hj with hj | rfl
  · exact ho j hj
  · exact hok
/-- What is answered: a tuple, if its slices are read alone from now on. -/
theorem spec_frzL {P : Program} {f : FuncId} {args : List PV} {h : List HB} {Q : SV → List HB → Prop} (b0 : Nat) (bs0 : List Nat) (hs : FSpec P f args h fun r h' => Q r h' ∨ (noCells h' (b0 :: bs0) = true ∧ ∃ l ob bs' l', r = .tup l ∧ brA ⟨0, [], h'⟩ [] l = some (ob, bs', l') ∧ allP ob ∧ (∀ x, x ∈ bs' → x ∈ b0 :: bs0) ∧ Q (.tup (l'.map (renP (keepN (b0 :: bs0))))) (goneB (b0 :: bs0) 0 h'))) : FSpec P f args h Q := by
  intro π ρ w vs hh ha
  refine (hs π ρ w vs hh ha).mono ?_
  rintro _ w' ⟨v, π', ρ', r, h', rfl, h2, h3, h4, h5⟩
  rcases h5 with h5 | ⟨h5, l, ob, bs', l', rfl, h6, h7, h8, h9⟩
  · exact ⟨v, π', ρ', r, h', rfl, h2, h3, h4, h5⟩
  have S : Sat π' ρ' ⟨0, [], h'⟩ (⟨#[], []⟩ : Act) w' := ⟨h3, fun i v hi => by simp [lk] at hi, rfl, rfl, rfl⟩
  obtain ⟨π2, ρ2, S2, St2, hp, _⟩ := sat_frz (N := h.length) S h5
  obtain ⟨us, rfl, h10⟩ := h2
  refine ⟨_, π2, ρ2, .tup (l'.map (renP (keepN (b0 :: bs0)))), _, rfl, ⟨us, rfl, ?_⟩, S2.hs, h4.trans St2, h9⟩
  exact all2_map (fun a b hab => hp a b hab) (brA_ok S h10 h6 h7 h8)
def norefC (c : CV) : Bool := (refC c).isNone
def norefP : PV → Bool
  | .c c => norefC c | .agg l => l.all norefC | .clo _ l => l.all norefC
def norefS : SV → Bool
  | .p x => norefP x | .tup l => l.all norefP | .gd _ _ _ => false
theorem den_noref {π : Pers} {ρ ρ' : Env} : ∀ (c : CV) (v : Value), norefC c = true → DenC π ρ c v → DenC π ρ' c v := by
  intro c v hc h
  cases c with
  | ptr b o => cases hc
  | rptr t b i j => cases hc
  | view t b a n => cases hc
  | mp b => cases hc
  | _ => exact h
theorem all2_noref {π : Pers} {ρ ρ' : Env} : ∀ {l : List CV} {vs : List Value}, l.all norefC = true → All2 (DenC π ρ) l vs → All2 (DenC π ρ') l vs
  | [], [], _, _ => trivial
  | c :: l, v :: vs, hn, h => by
    rw [List.all_cons, Bool.and_eq_true] at hn
    exact ⟨den_noref c v hn.1 h.1, all2_noref hn.2 h.2⟩
  | [], _ :: _, _, h => h.elim
  | _ :: _, [], _, h => h.elim
theorem denp_noref {π : Pers} {ρ ρ' : Env} : ∀ (p : PV) (v : Value), norefP p = true → DenP π ρ p v → DenP π ρ' p v
  | .c c, v, hn, h => den_noref c v hn h
  | .agg l, v, hn, ⟨vs, h1, h2⟩ => ⟨vs, h1, all2_noref hn h2⟩
  | .clo f l, v, hn, ⟨vs, h1, h2⟩ => ⟨vs, h1, all2_noref hn h2⟩
theorem all2p_noref {π : Pers} {ρ ρ' : Env} : ∀ {l : List PV} {vs : List Value}, l.all norefP = true → All2 (DenP π ρ) l vs → All2 (DenP π ρ') l vs
  | [], [], _, _ => trivial
  | c :: l, v :: vs, hn, h => by
    rw [List.all_cons, Bool.and_eq_true] at hn
    exact ⟨denp_noref c v hn.1 h.1, all2p_noref hn.2 h.2⟩
  | [], _ :: _, _, h => h.elim
  | _ :: _, [], _, h => h.elim
/-- What is answered leads to no block: none is left. -/
theorem spec_drop {P : Program} {f : FuncId} {args : List PV} {Q : SV → List HB → Prop} (hs : FSpec P f args [] fun r h' => norefS r = true ∧ Q r []) : FSpec P f args [] Q := by
  intro π ρ w vs hh ha
  refine (hs π ρ w vs hh ha).mono ?_
  rintro _ w' ⟨v, π', ρ', r, h', rfl, h2, h3, h4, h5, h6⟩
  refine ⟨v, π', fun _ => none, r, [], rfl, ?_, ⟨fun k it hk => by simp at hk, fun k hk => by simp at hk, fun k k' g hk => by simp at hk, fun k g hk => by simp at hk, h3.pers, fun _ _ => rfl⟩, ⟨h4.os, h4.tape, h4.output, h4.size, h4.block, fun k g hk => by simp at hk, h4.pmono, h4.pfresh, fun k it κ hk => by simp at hk⟩, h6⟩
  cases r with
  | p x => exact denp_noref x v h5 h2
  | tup l => obtain ⟨us, h7, h8⟩ := h2; exact ⟨us, h7, all2p_noref h5 h8⟩
  | gd j b x => exact h2.elim
end Go.Proofs.Ytkpepieepdmjpaa.Sx
