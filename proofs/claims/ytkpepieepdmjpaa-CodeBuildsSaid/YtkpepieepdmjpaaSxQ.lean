/- A machine of abstract states over the model, part Q: copy; a nil slice as a row of one's own; words for contracts. No condition. -/
import Derived.Test.YtkpepieepdmjpaaSxP
namespace Go.Proofs.Ytkpepieepdmjpaa.Sx
open Go
set_option linter.unusedVariables false
set_option linter.unusedSimpArgs false

/-! ### a nil slice is a row of one's own, without elements -/
theorem hsat_nil {π : Pers} {ρ : Env} {h : List HB} {w : World} (H : HSat π ρ h w) (e : TypeId) (t : Ty) : HSat π ρ (h ++ [.row e t ([] : List t.T)]) w := by
  have := hsat_new (w' := w) H (.row e t ([] : List t.T)) none (Nat.le_refl _) (fun _ _ => rfl) (fun g h => h.elim) (.inl ⟨updE_same _ _ _, rfl⟩)
  have e1 : updE ρ h.length none = ρ := by
    funext k
    by_cases hk : k = h.length
    · subst hk; rw [updE_same, H.out _ (Nat.le_refl _)]
    · exact updE_other ρ none hk
  rw [e1] at this
  exact this
theorem step_nil {N : Nat} {ρ ρ' : Env} {h h' : List HB} {w w' : World} {π π' : Pers} (St : Step N ρ h w π ρ' h' w' π') (H : HSat π' ρ' h' w') (it : HB) : Step N ρ h w π ρ' (h' ++ [it]) w' π' := by
  refine ⟨St.os, St.tape, St.output, St.size, St.block, ?_, St.pmono, St.pfresh, ?_⟩
  · intro k g hk hr
    by_cases hkl : k < h'.length
    · exact St.fresh k g hkl hr
    · rw [H.out k (by omega)] at hr; exact hr.elim
  · intro k x κ hk hit hκ
    obtain ⟨e1, it', e2, k2⟩ := St.keep k x κ hk hit hκ
    refine ⟨e1, it', ?_, k2⟩
    rw [List.getElem?_append_left (List.getElem?_eq_some_iff.1 e2).1]
    exact e2
def ownV (t : Ty) (n : Nat) : CV → CV | .nils => .view t n 0 0 | c => c
theorem den_ownV {π : Pers} {ρ : Env} {t : Ty} {n : Nat} {c : CV} {v : Value} (h : DenC π ρ c v) : DenC π ρ (ownV t n c) v := by
  cases c with
  | nils => exact .inl ⟨rfl, none, h⟩
  | _ => exact h
def ownP (t : Ty) (n : Nat) : PV → PV | .c c => .c (ownV t n c) | p => p
theorem denp_ownP {π : Pers} {ρ : Env} {t : Ty} {n : Nat} {c : PV} {v : Value} (h : DenP π ρ c v) : DenP π ρ (ownP t n c) v := by
  cases c with
  | c x => exact den_ownV h
  | agg l => exact h
  | clo f l => exact h
def ownAt {α : Type} (f : α → α) : Nat → List α → List α
  | _, [] => []
  | 0, a :: r => f a :: r
  | i + 1, a :: r => a :: ownAt f i r
theorem all2_ownAt {α β : Type} {R : α → β → Prop} {f : α → α} (hf : ∀ a b, R a b → R (f a) b) : ∀ {l : List α} {m : List β} (i : Nat), All2 R l m → All2 R (ownAt f i l) m
  | [], [], i, _ => by cases i <;> trivial
  | _ :: _, _ :: _, 0, h => ⟨hf _ _ h.1, h.2⟩
  | _ :: _, _ :: _, i + 1, h => ⟨h.1, all2_ownAt hf i h.2⟩
  | [], _ :: _, _, h => h.elim
  | _ :: _, [], _, h => h.elim
theorem ownAt_len {α : Type} {f : α → α} : ∀ (i : Nat) (l : List α), (ownAt f i l).length = l.length
  | i, [] => by cases i <;> rfl
  | 0, _ :: _ => rfl
  | i + 1, _ :: r => by simp only [ownAt, List.length_cons, ownAt_len i r]
def ownS (t : Ty) (n i : Nat) : SV → SV | .p x => .p (ownP t n x) | .tup l => .tup (ownAt (ownP t n) i l) | s => s
def ownH (t : Ty) (n k i : Nat) (h : List HB) : List HB := ownAt (fun it => match it with | .cells e cs => .cells e (ownAt (ownV t n) i cs) | it => it) k h
theorem ownAt_get {α : Type} {f : α → α} : ∀ {i : Nat} {l : List α} {k : Nat} {x : α}, (ownAt f i l)[k]? = some x → ∃ y, l[k]? = some y ∧ (x = y ∨ x = f y)
  | _, [], k, x, h => by simp [ownAt] at h
  | 0, a :: r, k, x, h => by
    cases k with
    | zero => simp only [ownAt, List.getElem?_cons_zero, Option.some.injEq] at h; exact ⟨a, rfl, .inr h.symm⟩
    | succ k => simp only [ownAt, List.getElem?_cons_succ] at h ⊢; exact ⟨x, h, .inl rfl⟩
  | i + 1, a :: r, k, x, h => by
    cases k with
    | zero => simp only [ownAt, List.getElem?_cons_zero, Option.some.injEq] at h; exact ⟨a, rfl, .inl h.symm⟩
    | succ k => simp only [ownAt, List.getElem?_cons_succ] at h ⊢; exact ownAt_get h
theorem ownAt_get' {α : Type} {f : α → α} : ∀ {i : Nat} {l : List α} {k : Nat} {y : α}, l[k]? = some y → (ownAt f i l)[k]? = some y ∨ (ownAt f i l)[k]? = some (f y)
  | _, [], k, x, h => by simp at h
  | 0, a :: r, k, x, h => by
    cases k with
    | zero => simp only [List.getElem?_cons_zero, Option.some.injEq] at h; subst h; exact .inr rfl
    | succ k => exact .inl h
  | i + 1, a :: r, k, x, h => by
    cases k with
    | zero => exact .inl h
    | succ k => simp only [ownAt, List.getElem?_cons_succ] at h ⊢; exact ownAt_get' h
theorem hsat_ownH {π : Pers} {ρ : Env} {h : List HB} {w : World} (H : HSat π ρ h w) (t : Ty) (n k i : Nat) : HSat π ρ (ownH t n k i h) w := by
  refine ⟨?_, ?_, ?_, ?_, H.pers, ?_⟩
  · intro j x hj
    obtain ⟨y, hy, he⟩ := ownAt_get hj
    have h0 := H.items j y hy
    rcases he with rfl | rfl
    · exact h0
    · cases y with
      | cells e cs => obtain ⟨g, vs, h1, h2, h3⟩ := h0; exact ⟨g, vs, by rw [ownAt_len]; exact h1, h2, all2_ownAt (fun _ _ h => den_ownV h) i h3⟩
      | row e t xs => exact h0
      | map ka kt va vt es => exact h0
      | nest e bx fs xs hole => exact h0
      | gone => exact h0
  · intro j hj; unfold ownH at hj; rw [ownAt_len] at hj; exact H.lt j hj
  · intro j j' g hj hj'; unfold ownH at hj hj'; rw [ownAt_len] at hj hj'; exact H.inj j j' g hj hj'
  · intro j g hj; unfold ownH at hj; rw [ownAt_len] at hj; exact H.apart j g hj
  · intro j hj; unfold ownH at hj; rw [ownAt_len] at hj; exact H.out j hj
theorem step_ownH {N : Nat} {ρ ρ' : Env} {h h' : List HB} {w w' : World} {π π' : Pers} (St : Step N ρ h w π ρ' h' w' π') (t : Ty) (n k i : Nat) : Step N ρ h w π ρ' (ownH t n k i h') w' π' := by
  refine ⟨St.os, St.tape, St.output, St.size, St.block, ?_, St.pmono, St.pfresh, ?_⟩
  · intro j g hj; unfold ownH at hj; rw [ownAt_len] at hj; exact St.fresh j g hj
  · intro j x κ hj hit hκ
    obtain ⟨e1, it', e2, k2⟩ := St.keep j x κ hj hit hκ
    refine ⟨e1, ?_⟩
    rcases ownAt_get' (f := fun it => match it with | .cells e cs => .cells e (ownAt (ownV t n) i cs) | it => it) (i := k) e2 with h | h
    · exact ⟨it', h, k2⟩
    · exact ⟨_, h, by cases it' <;> exact k2⟩
/-- The result (of a tuple: its part i), where it is nil, is a row of the caller's own. -/
theorem spec_ownR {P : Program} {f : FuncId} {args : List PV} {h : List HB} {Q : SV → List HB → Prop} (e : TypeId) (t : Ty) (i : Nat) (hs : FSpec P f args h fun r h' => Q r h' ∨ Q (ownS t h'.length i r) (h' ++ [.row e t ([] : List t.T)])) : FSpec P f args h Q := by
  intro π ρ w vs hh ha
  refine (hs π ρ w vs hh ha).mono ?_
  rintro _ w' ⟨v, π', ρ', r, h', rfl, h2, h3, h4, h5⟩
  rcases h5 with h5 | h5
  · exact ⟨v, π', ρ', r, h', rfl, h2, h3, h4, h5⟩
  refine ⟨v, π', ρ', _, _, rfl, ?_, hsat_nil h3 e t, step_nil h4 h3 _, h5⟩
  cases r with
  | p x => exact denp_ownP h2
  | tup l => obtain ⟨us, h6, h7⟩ := h2; exact ⟨us, h6, all2_ownAt (fun _ _ h => denp_ownP h) i h7⟩
  | gd j b x => exact h2.elim
/-- Cell i of block k, where it is nil, is a row of the block's own. -/
theorem spec_ownH {P : Program} {f : FuncId} {args : List PV} {h : List HB} {Q : SV → List HB → Prop} (e : TypeId) (t : Ty) (k i : Nat) (hs : FSpec P f args h fun r h' => Q r h' ∨ Q r (ownH t h'.length k i h' ++ [.row e t ([] : List t.T)])) : FSpec P f args h Q := by
  intro π ρ w vs hh ha
  refine (hs π ρ w vs hh ha).mono ?_
  rintro _ w' ⟨v, π', ρ', r, h', rfl, h2, h3, h4, h5⟩
  rcases h5 with h5 | h5
  · exact ⟨v, π', ρ', r, h', rfl, h2, h3, h4, h5⟩
  have H := hsat_nil (hsat_ownH h3 t h'.length k i) e t
  exact ⟨v, π', ρ', _, _, rfl, h2, H, step_nil (step_ownH h4 t h'.length k i) (hsat_ownH h3 t h'.length k i) _, h5⟩

/-! ### shapes of cells and blocks -/
inductive CS where
  | int (k : IntKind) | bool | str | row (t : Ty) | ptr (b : Nat) | nilp | view (t : Ty) (b : Nat) | all (t : Ty) (b : Nat) | mp (b : Nat) | nilm | nils
abbrev CS.T : CS → Type
  | .int _ => Int | .bool => Bool | .str => ByteArray | .row t => List t.T | .view _ _ => Nat × Nat | .all _ _ => Nat | _ => Unit
def CS.enc : (s : CS) → s.T → CV
  | .int k, n => .int k n | .bool, b => .bool b | .str, s => .str s | .row t, xs => .row t xs | .ptr b, _ => .ptr b 0 | .nilp, _ => .nilp
  | .view t b, x => .view t b x.1 x.2 | .all t b, n => .view t b 0 n | .mp b, _ => .mp b | .nilm, _ => .nilm | .nils, _ => .nils
def CS.dec : (s : CS) → CV → Option s.T
  | .int k, .int k' n => bif decide (k' = k) then some n else none
  | .bool, .bool b => some b
  | .str, .str s => some s
  | .row t, .row t' xs => if h : t' = t then some (h ▸ xs) else none
  | .ptr b, .ptr b' 0 => bif Nat.beq b' b then some () else none
  | .nilp, .nilp => some ()
  | .view t b, .view t' b' a n => bif decide (t' = t) && Nat.beq b' b then some (a, n) else none
  | .all t b, .view t' b' 0 n => bif decide (t' = t) && Nat.beq b' b then some n else none
  | .mp b, .mp b' => bif Nat.beq b' b then some () else none
  | .nilm, .nilm => some ()
  | .nils, .nils => some ()
  | _, _ => none
theorem CS.dec_ok : ∀ (s : CS) (c : CV) (x : s.T), s.dec c = some x → c = s.enc x := by
  intro s c x h
  unfold CS.dec at h
  split at h
  · rename_i k k' n
    cases hk : decide (k' = k) with
    | false => rw [hk] at h; cases h
    | true => rw [hk] at h; have := of_decide_eq_true hk; subst this; cases h; rfl
  · cases h; rfl
  · cases h; rfl
  · rename_i t t' xs
    split at h
    · rename_i ht; subst ht; cases h; rfl
    · cases h
  · rename_i b b'
    cases hb : Nat.beq b' b with
    | false => rw [hb] at h; cases h
    | true => have := beq_eq hb; subst this; rfl
  · rfl
  · rename_i t b t' b' a n
    cases hb : (decide (t' = t) && Nat.beq b' b) with
    | false => rw [hb] at h; cases h
    | true =>
      rw [hb] at h
      simp only [Bool.and_eq_true, decide_eq_true_eq] at hb
      obtain ⟨rfl, hb⟩ := hb
      have := beq_eq hb
      subst this
      cases h; rfl
  · rename_i t b t' b' n
    cases hb : (decide (t' = t) && Nat.beq b' b) with
    | false => rw [hb] at h; cases h
    | true =>
      rw [hb] at h
      simp only [Bool.and_eq_true, decide_eq_true_eq] at hb
      obtain ⟨rfl, hb⟩ := hb
      have := beq_eq hb
      subst this
      cases h; rfl
  · rename_i b b'
    cases hb : Nat.beq b' b with
    | false => rw [hb] at h; cases h
    | true => have := beq_eq hb; subst this; rfl
  · rfl
  · rfl
  · cases h
abbrev CS.TL : List CS → Type
  | [] => Unit
  | s :: r => s.T × CS.TL r
def CS.encL : (l : List CS) → CS.TL l → List CV
  | [], _ => []
  | s :: r, x => s.enc x.1 :: CS.encL r x.2
def CS.decL : (l : List CS) → List CV → Option (CS.TL l)
  | [], [] => some ()
  | s :: r, c :: cs => match s.dec c, CS.decL r cs with
    | some x, some xs => some (x, xs)
    | _, _ => none
  | _, _ => none
theorem CS.decL_ok : ∀ (l : List CS) (cs : List CV) (x : CS.TL l), CS.decL l cs = some x → cs = CS.encL l x
  | [], [], x, h => rfl
  | s :: r, c :: cs, x, h => by
    simp only [CS.decL] at h
    split at h
    · rename_i y ys h1 h2
      cases h
      rw [CS.dec_ok s c y h1, CS.decL_ok r cs ys h2]
      rfl
    · cases h
  | [], _ :: _, _, h => by simp [CS.decL] at h
  | _ :: _, [], _, h => by simp [CS.decL] at h
/-! ### words for contracts: the shapes of arguments -/
inductive AS where
  | int (k : IntKind) | bool | str | row (t : Ty) | data (t : Ty) | ptr (b : Nat) | nilp | cell (s : CS) | clo (f : FuncId) (l : List CS) | agg (l : List CS)
abbrev AS.T : AS → Type
  | .int _ => Int | .bool => Bool | .str => ByteArray | .row t => List t.T | .data t => t.T | .ptr _ => Unit | .nilp => Unit | .cell s => s.T | .clo _ l => CS.TL l | .agg l => CS.TL l
def AS.enc : (s : AS) → s.T → PV
  | .int k, n => .c (.int k n) | .bool, b => .c (.bool b) | .str, s => .c (.str s) | .row t, xs => .c (.row t xs) | .data t, x => .agg (toCV t x) | .ptr b, _ => .c (.ptr b 0) | .nilp, _ => .c .nilp | .cell s, x => .c (s.enc x) | .clo f l, x => .clo f (CS.encL l x) | .agg l, x => .agg (CS.encL l x)
def AS.dec : (s : AS) → PV → Option s.T
  | .int k, .c (.int k' n) => bif decide (k' = k) then some n else none
  | .bool, .c (.bool b) => some b
  | .str, .c (.str s) => some s
  | .row t, .c (.row t' xs) => if h : t' = t then some (h ▸ xs) else none
  | .row t, .c .nils => some ([] : List t.T)
  | .data t, .agg l => match fromCV t l with | some (x, []) => some x | _ => none
  | .ptr b, .c (.ptr b' 0) => bif Nat.beq b' b then some () else none
  | .nilp, .c .nilp => some ()
  | .cell s, .c c => s.dec c
  | .clo f l, .clo f' cs => bif Nat.beq f' f then CS.decL l cs else none
  | .agg l, .agg cs => CS.decL l cs
  | _, _ => none
/-- What p says q says, too. -/
def LeP (p q : PV) : Prop := ∀ π ρ v, DenP π ρ p v → DenP π ρ q v
theorem fromCV_le : ∀ (t : Ty) (l r : List CV) (x : t.T) (π : Pers) (ρ : Env) (vs : List Value), fromCV t l = some (x, r) → All2 (DenC π ρ) l vs → All2 (DenC π ρ) (toCV t x ++ r) vs := by
  intro t l r x π ρ vs h ha
  obtain ⟨v1, v2, rfl, h1, h2⟩ := fromCV_ok t l vs x r ha h
  exact all2_append (toCV_ok t x v1 h1) h2
theorem AS.dec_ok : ∀ (s : AS) (p : PV) (x : s.T), s.dec p = some x → LeP p (s.enc x) := by
  intro s p x h π ρ v hv
  unfold AS.dec at h
  split at h
  · rename_i k k' n
    cases hb : decide (k' = k) with
    | false => rw [hb] at h; cases h
    | true => rw [hb] at h; cases h; have := of_decide_eq_true hb; subst this; exact hv
  · cases h; exact hv
  · cases h; exact hv
  · rename_i t t' xs
    split at h
    · rename_i ht; subst ht; cases h; exact hv
    · cases h
  · cases h
    have hv' : v = .slice none 0 0 := hv
    subst hv'
    exact ⟨none, 0, rfl, Nat.le_refl _, by simp [maxLen], .inl rfl⟩
  · rename_i t l
    split at h
    · rename_i y hy
      cases h
      obtain ⟨vs, rfl, h2⟩ := hv
      refine ⟨vs, rfl, ?_⟩
      have := fromCV_le t l [] _ π ρ vs hy h2
      simpa using this
    · cases h
  · rename_i b b'
    cases hb : Nat.beq b' b with
    | false => rw [hb] at h; cases h
    | true => rw [hb] at h; cases h; have := beq_eq hb; subst this; exact hv
  · cases h; exact hv
  · rename_i s c
    rw [CS.dec_ok s c x h] at hv
    exact hv
  · rename_i f l f' cs
    cases hb : Nat.beq f' f with
    | false => rw [hb] at h; cases h
    | true => rw [hb] at h; have := beq_eq hb; subst this; rw [CS.decL_ok l cs x h] at hv; exact hv
  · rename_i l cs
    rw [CS.decL_ok l cs x h] at hv; exact hv
  · cases h
abbrev AS.TL : List AS → Type
  | [] => Unit
  | s :: r => s.T × AS.TL r
def AS.encL : (l : List AS) → AS.TL l → List PV
  | [], _ => []
  | s :: r, x => s.enc x.1 :: AS.encL r x.2
def AS.decL : (l : List AS) → List PV → Option (AS.TL l)
  | [], [] => some ()
  | s :: r, p :: ps => match s.dec p, AS.decL r ps with
    | some x, some xs => some (x, xs)
    | _, _ => none
  | _, _ => none
theorem AS.decL_ok : ∀ (l : List AS) (ps : List PV) (x : AS.TL l), AS.decL l ps = some x → All2 LeP ps (AS.encL l x)
  | [], [], x, _ => trivial
  | [], _ :: _, x, h => by simp [AS.decL] at h
  | _ :: _, [], x, h => by simp [AS.decL] at h
  | s :: r, p :: ps, x, h => by
    simp only [AS.decL] at h
    split at h
    · rename_i y ys hy hys
      cases h
      exact ⟨AS.dec_ok s p y hy, AS.decL_ok r ps ys hys⟩
    · cases h
theorem all2_le {π : Pers} {ρ : Env} : ∀ {l m : List PV} {vs : List Value}, All2 LeP l m → All2 (DenP π ρ) l vs → All2 (DenP π ρ) m vs
  | [], [], [], _, _ => trivial
  | _ :: _, _ :: _, _ :: _, h, h' => ⟨h.1 _ _ _ h'.1, all2_le h.2 h'.2⟩
  | [], _ :: _, _, h, _ => h.elim
  | _ :: _, [], _, h, _ => h.elim
  | _ :: _, _ :: _, [], _, h' => h'.elim
  | [], [], _ :: _, _, h' => h'.elim
theorem spec_le {P : Program} {f : FuncId} {a b : List PV} {h : List HB} {Q : SV → List HB → Prop} (hl : All2 LeP a b) (hs : FSpec P f b h Q) : FSpec P f a h Q :=
  fun π ρ w vs hh ha => hs π ρ w vs hh (all2_le hl ha)
/-- A contract: the shapes of the arguments, the blocks, what is asked and what comes of it. -/
def trOf {β : Type} (as : List AS) (hd : List HB → Option β) (I : AS.TL as → β → (SV → List HB → Prop) → Prop) : Tr := fun args h Q =>
  match AS.decL as args, hd h with
  | some x, some y => I x y Q
  | _, _ => False
theorem tr_ok {β : Type} {P : Program} {f : FuncId} {as : List AS} {hd : List HB → Option β} {he : β → List HB} {I : AS.TL as → β → (SV → List HB → Prop) → Prop} (hh : ∀ h y, hd h = some y → h = he y)
    (hs : ∀ x y Q, I x y Q → FSpec P f (AS.encL as x) (he y) Q) : ∀ args h Q, trOf as hd I args h Q → FSpec P f args h Q := by
  intro args h Q ht
  unfold trOf at ht
  split at ht
  · rename_i x y hx hy
    obtain rfl := hh h y hy
    exact spec_le (AS.decL_ok as args x hx) (hs x y Q ht)
  · exact ht.elim
def noH : List HB → Option Unit | [] => some () | _ => none
theorem noH_ok : ∀ h y, noH h = some y → h = (fun _ : Unit => ([] : List HB)) y := by
  intro h y hh; cases h with | nil => rfl | cons _ _ => simp [noH] at hh
/-- Contracts of functions by their numbers. -/
def gam : List (Nat × List Bool × Tr) → Gam
  | [], _ => none
  | (k, o, t) :: r, f => bif Nat.beq k f then some (o, t) else gam r f
def GOKL (P : Program) : List (Nat × List Bool × Tr) → Prop
  | [] => True
  | (k, _, t) :: r => (∀ args h Q, t args h Q → FSpec P k args h Q) ∧ GOKL P r
theorem gam_ok {P : Program} : ∀ {l : List (Nat × List Bool × Tr)}, GOKL P l → GOK P (gam l)
  | [], _ => fun f own tr h => by simp [gam] at h
  | (k, o, t) :: r, hl => fun f own tr h => by
    simp only [gam] at h
    cases hb : Nat.beq k f with
    | true => rw [hb] at h; simp only [cond_true, Option.some.injEq, Prod.mk.injEq] at h; obtain ⟨rfl, rfl⟩ := h; rw [← beq_eq hb]; exact hl.1
    | false => rw [hb] at h; exact gam_ok hl.2 f own tr h
/-- What a function's body is asked. -/
def body (P : Program) (Γ : Gam) (Λ : Lam) (fn : Func) (args : List PV) (h : List HB) (Q : SV → List HB → Prop) : Prop :=
  match fn.body with
  | some c => sx P Γ Λ c 0 { nt := fn.ntmps, fr := argsF 0 args, hp := h } (retQ P fn.results.toList h.length Q)
  | none => False
def loopL (fn : Func) : List (Nat × Code) := match fn.body with | some c => loopsOf c 0 | none => []
theorem spec_body {P : Program} {Γ : Gam} {Λ : Lam} (hΓ : GOK P Γ) {f : FuncId} {fn : Func} (hf : P.funcs[f]? = some fn) {args : List PV} {h : List HB} {Q : SV → List HB → Prop} (hn : Nat.ble args.length fn.ntmps = true) (hl : LOK h.length P Λ (loopL fn)) (hb : body P Γ Λ fn args h Q) : FSpec P f args h Q := by
  unfold body at hb
  unfold loopL at hl
  split at hb
  · rename_i c hc
    rw [hc] at hl
    exact spec_of hΓ hf hc hn hl hb
  · exact hb.elim
/-- .. of which less is said. -/
def QF (N : Nat) (Q : Exit → SS → Prop) : Exit → SS → Prop := fun e s => ∃ t, Fits N s t ∧ Q e t
theorem W_QF {N : Nat} {P : Program} {c : Code} {s : SS} {Q : Exit → SS → Prop} (h : W N P c s (QF N Q)) : W N P c s Q := by
  intro π ρ a w S
  refine wp_mono (h π ρ a w S) ?_
  rintro e a' w' ⟨π', ρ', s', S', St, t, hf, hq⟩
  obtain ⟨ρ2, S2, hst⟩ := fits_ok hf S'
  exact ⟨π', ρ2, t, S2, hst St, hq⟩
def pickF (fr : List (Nat × SV)) : List Nat → List (Nat × SV)
  | [] => []
  | i :: r => match lk fr i with | some v => (i, v) :: pickF fr r | none => pickF fr r
def rootsL (fr : List (Nat × SV)) : List Nat → List CV
  | [] => []
  | i :: r => (match lk fr i with | some v => cellsOfS v | none => []) ++ rootsL fr r
/-- The state as far as the slots L go. -/
def canon (N : Nat) (L : List Nat) (s : SS) : Option SS :=
  let m := names N s (rootsL s.fr L)
  bif okN N s.hp.length m && nodupN L then some { nt := s.nt, fr := pickF (renF (posOf m) s.fr) L, hp := subH s.hp m m } else none
theorem pickF_lk {fr : List (Nat × SV)} : ∀ {L : List Nat} {i : Nat} {v : SV}, lk (pickF fr L) i = some v → lk fr i = some v ∧ i ∈ L
  | [], i, v, h => by simp [pickF, lk] at h
  | j :: r, i, v, h => by
    simp only [pickF] at h
    split at h
    · rename_i u hu
      simp only [lk] at h
      cases hb : Nat.beq j i with
      | true => rw [hb] at h; simp only [cond_true, Option.some.injEq] at h; subst h; have := beq_eq hb; subst this; exact ⟨hu, by simp⟩
      | false => rw [hb] at h; obtain ⟨h1, h2⟩ := pickF_lk h; exact ⟨h1, by simp [h2]⟩
    · obtain ⟨h1, h2⟩ := pickF_lk h; exact ⟨h1, by simp [h2]⟩
theorem pickF_once {fr : List (Nat × SV)} : ∀ {L : List Nat}, nodupN L = true → once (pickF fr L) = true
  | [], _ => rfl
  | j :: r, h => by
    simp only [nodupN, Bool.and_eq_true, Bool.not_eq_true'] at h
    simp only [pickF]
    split
    · rename_i u hu
      simp only [once, Bool.and_eq_true]
      refine ⟨?_, pickF_once h.2⟩
      cases hl : lk (pickF fr r) j with
      | none => rfl
      | some x => have := memN_iff.2 (pickF_lk hl).2; rw [this] at h; exact absurd h.1 (by simp)
    · exact pickF_once h.2
theorem canon_ok {N : Nat} {L : List Nat} {s t : SS} (h : canon N L s = some t) {π : Pers} {ρ : Env} {a : Act} {w : World} (S : Sat π ρ s a w) : ∃ ρ', Sat π ρ' t a w ∧ ∀ {ρ2 h2 w2 π2}, Step N ρ2 h2 w2 π2 ρ s.hp w π → Step N ρ2 h2 w2 π2 ρ' t.hp w π := by
  unfold canon at h
  dsimp only at h
  generalize names N s (rootsL s.fr L) = m at h
  cases hq : (okN N s.hp.length m && nodupN L) with
  | false => rw [hq] at h; cases h
  | true =>
    rw [hq] at h
    simp only [cond_true, Option.some.injEq] at h
    simp only [Bool.and_eq_true] at hq
    obtain ⟨hm, hL⟩ := hq
    have hm' := hm
    simp only [okN, Bool.and_eq_true] at hm
    subst h
    have S1 := sat_restrict S hm.1.1 hm.1.2
    refine ⟨envOf ρ m, ⟨S1.hs, fun i v hi => S1.fs i v (pickF_lk hi).1, S.df, S.nt, pickF_once hL⟩, ?_⟩
    intro ρ2 h2 w2 π2 St
    have hlen := subH_len (h := s.hp) (m := m) m
    refine ⟨St.os, St.tape, St.output, St.size, St.block, ?_, St.pmono, St.pfresh, ?_⟩
    · intro k g hk hr
      obtain ⟨b, hb, hr'⟩ := own_env hr
      exact St.fresh b g (allLt_ok hm.1.2 k b hb) hr'
    · intro k it κ hk hit hκ
      obtain ⟨e1, it', e2, k2⟩ := St.keep k it κ hk hit hκ
      have hmk := isPre_ok hm.2 k hk
      have hlt : k < (subH s.hp m m).length := by rw [hlen]; exact (List.getElem?_eq_some_iff.1 hmk).1
      have hget := List.getElem?_eq_getElem hlt
      obtain ⟨b, hb, he⟩ := subH_get hget
      rw [hmk] at hb
      cases hb
      refine ⟨by rw [← e1]; simp [envOf, hmk], renH (posOf m) it', ?_, by rw [knd_ren]; exact k2⟩
      simp only
      rw [hget, he, e2]
      rfl
def cq (N : Nat) (L : List Nat) (K : SS → Prop) : SS → Prop := fun s => match canon N L s with | some t => K t | none => False
def cQ (N : Nat) (L : List Nat) (Q : Exit → SS → Prop) : Exit → SS → Prop := fun e s => match canon N L s with | some t => Q e t | none => False
theorem W_cQ {N : Nat} {P : Program} {c : Code} {s : SS} {L : List Nat} {Q : Exit → SS → Prop} (h : W N P c s (cQ N L Q)) : W N P c s Q := by
  intro π ρ a w S
  refine wp_mono (h π ρ a w S) ?_
  rintro e a' w' ⟨π', ρ', s', S', St, hq⟩
  unfold cQ at hq
  split at hq
  · rename_i t ht
    obtain ⟨ρ2, S2, hst⟩ := canon_ok ht S'
    exact ⟨π', ρ2, t, S2, hst St, hq⟩
  · exact hq.elim
/-- A loop, of which at each end only the slots L (L') are told. -/
theorem W_loopC {α : Type} {N : Nat} {P : Program} {body : Code} (st : α → SS) (I : α → Prop) (μ : α → Nat) (L L' : List Nat) {Q : Exit → SS → Prop}
    (hr : ∀ x, I x → W N P body (st x) (thenQ (cq N L fun t => ∃ y, t = st y ∧ I y ∧ μ y < μ x) (cQ N L' Q))) : ∀ x, I x → W N P (.loop body) (st x) Q := by
  intro x hx
  refine W_cQ (L := L') ?_
  intro π ρ a w S
  refine wp_loop_ghost (fun n a' w' => ∃ y π' ρ', I y ∧ μ y = n ∧ Sat π' ρ' (st y) a' w' ∧ Step N ρ (st x).hp w π ρ' (st y).hp w' π') (μ x) ⟨x, π, ρ, hx, rfl, S, Step.refl _ _ _ _ _⟩ ?_
  rintro n a1 w1 ⟨y, π1, ρ1, hy, rfl, S1, St1⟩
  refine wp_mono (hr y hy π1 ρ1 a1 w1 S1) ?_
  rintro e a2 w2 ⟨π2, ρ2, s2, S2, St2, hq⟩
  cases e with
  | normal =>
    simp only [thenQ, cq] at hq
    split at hq
    · rename_i t ht
      obtain ⟨z, rfl, hz, hlt⟩ := hq
      obtain ⟨ρ3, S3, hst⟩ := canon_ok ht S2
      exact ⟨μ z, hlt, z, π2, ρ3, hz, rfl, S3, hst (St1.trans St2)⟩
    · exact hq.elim
  | exit id => exact ⟨π2, ρ2, s2, S2, St1.trans St2, hq⟩
  | goto l => exact ⟨π2, ρ2, s2, S2, St1.trans St2, hq⟩
  | ret => exact ⟨π2, ρ2, s2, S2, St1.trans St2, hq⟩
  | panic c => exact ⟨π2, ρ2, s2, S2, St1.trans St2, hq⟩
  | outgrown => exact ⟨π2, ρ2, s2, S2, St1.trans St2, hq⟩
/-- A loop's contract: from a state that fits 'st x', where I x, one of the ends 'O x e t'. -/
def lamOf {α : Type} (N : Nat) (L : List Nat) (st : α → SS) (I : α → Prop) (O : α → (Exit → SS → Prop) → Prop) : SS → (Exit → SS → Prop) → Prop := fun s Q => cq N L (fun t => ∃ x, t = st x ∧ I x ∧ O x Q) s
theorem lam_ok {α : Type} {N : Nat} {P : Program} {c : Code} {L : List Nat} {st : α → SS} {I : α → Prop} {O : α → (Exit → SS → Prop) → Prop} (h : ∀ x Q, I x → O x Q → W N P (.loop c) (st x) Q) : ∀ s Q, lamOf N L st I O s Q → W N P (.loop c) s Q := by
  intro s Q hl
  unfold lamOf cq at hl
  split at hl
  · rename_i t ht
    obtain ⟨x, rfl, hi, ho⟩ := hl
    intro π ρ a w S
    obtain ⟨ρ', S', hst⟩ := canon_ok ht S
    refine wp_mono (h x Q hi ho π ρ' a w S') ?_
    rintro e a2 w2 ⟨π2, ρ2, s2, S2, St2, hq⟩
    exact ⟨π2, ρ2, s2, S2, (hst (Step.refl N ρ s.hp w π)).trans St2, hq⟩
  · exact hl.elim
/-- .. of which at a return the slots L2, else the slots L1 are told. -/
def cQE (N : Nat) (L1 L2 : List Nat) (Q : Exit → SS → Prop) : Exit → SS → Prop
  | .ret, s => cq N L2 (Q .ret) s
  | e, s => cq N L1 (Q e) s
theorem cQE_out {N : Nat} {L1 L2 : List Nat} {Q : Exit → SS → Prop} {e : Exit} {s : SS} (h : cQE N L1 L2 Q e s) : ∃ L t, canon N L s = some t ∧ Q e t := by
  have key : ∀ L, cq N L (Q e) s → ∃ L t, canon N L s = some t ∧ Q e t := by
    intro L hh
    unfold cq at hh
    split at hh
    · rename_i t ht; exact ⟨L, t, ht, hh⟩
    · exact hh.elim
  cases e <;> exact key _ h
theorem W_loopE {α : Type} {N : Nat} {P : Program} {body : Code} (st : α → SS) (I : α → Prop) (μ : α → Nat) (L L1 L2 : List Nat) {Q : Exit → SS → Prop}
    (hr : ∀ x, I x → W N P body (st x) (thenQ (cq N L fun t => ∃ y, t = st y ∧ I y ∧ μ y < μ x) (cQE N L1 L2 Q))) : ∀ x, I x → W N P (.loop body) (st x) Q := by
  intro x hx π ρ a w S
  refine wp_loop_ghost (fun n a' w' => ∃ y π' ρ', I y ∧ μ y = n ∧ Sat π' ρ' (st y) a' w' ∧ Step N ρ (st x).hp w π ρ' (st y).hp w' π') (μ x) ⟨x, π, ρ, hx, rfl, S, Step.refl _ _ _ _ _⟩ ?_
  rintro n a1 w1 ⟨y, π1, ρ1, hy, rfl, S1, St1⟩
  refine wp_mono (hr y hy π1 ρ1 a1 w1 S1) ?_
  rintro e a2 w2 ⟨π2, ρ2, s2, S2, St2, hq⟩
  have out : ∀ e, cQE N L1 L2 Q e s2 → ∃ π' ρ' s', Sat π' ρ' s' a2 w2 ∧ Step N ρ (st x).hp w π ρ' s'.hp w2 π' ∧ Q e s' := by
    intro e he
    obtain ⟨L', t, ht, hq⟩ := cQE_out he
    obtain ⟨ρ3, S3, hst⟩ := canon_ok ht S2
    exact ⟨π2, ρ3, t, S3, hst (St1.trans St2), hq⟩
  cases e with
  | normal =>
    simp only [thenQ, cq] at hq
    split at hq
    · rename_i t ht
      obtain ⟨z, rfl, hz, hlt⟩ := hq
      obtain ⟨ρ3, S3, hst⟩ := canon_ok ht S2
      exact ⟨μ z, hlt, z, π2, ρ3, hz, rfl, S3, hst (St1.trans St2)⟩
    · exact hq.elim
  | exit id => exact out _ hq
  | goto l => exact out _ hq
  | ret => exact out _ hq
  | panic c => exact out _ hq
  | outgrown => exact out _ hq
def LOKL (N : Nat) (P : Program) (Λ : Lam) : List (Nat × Code) → Prop
  | [] => True
  | (k, c) :: r => (∀ s Q, Λ k s Q → W N P (.loop c) s Q) ∧ LOKL N P Λ r
theorem lokl {N : Nat} {P : Program} {Λ : Lam} : ∀ {l : List (Nat × Code)}, LOKL N P Λ l → LOK N P Λ l
  | [], _ => fun k c h => by simp at h
  | (k, c) :: r, h => fun k' c' hm => by
    rcases List.mem_cons.1 hm with e | hm
    · cases e; exact h.1
    · exact lokl h.2 k' c' hm
def lam : List (Nat × (SS → (Exit → SS → Prop) → Prop)) → Lam
  | [], _, _, _ => False
  | (k, f) :: r, n, s, Q => bif Nat.beq k n then f s Q else lam r n s Q
def noLam : Lam := fun _ _ _ => False
theorem noLam_ok {N : Nat} {P : Program} {l : List (Nat × Code)} : LOK N P noLam l := fun _ _ _ _ _ h => h.elim
end Go.Proofs.Ytkpepieepdmjpaa.Sx
