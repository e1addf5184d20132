/- A machine of abstract states over the model, part Ob: regions of which the order isn't told. No condition. -/
import Derived.Test.YtkpepieepdmjpaaSxO
import Derived.OrdersHeld
namespace Go.Proofs.Ytkpepieepdmjpaa.Sx
open Go
set_option linter.unusedVariables false
set_option linter.unusedSimpArgs false

/-! ### one operation, while some blocks are out of its reach -/
def rangeN : Nat → List Nat
  | 0 => []
  | n + 1 => rangeN n ++ [n]
def cmpl (B : List Nat) : List Nat → List Nat
  | [] => []
  | x :: r => bif memN B x then cmpl B r else x :: cmpl B r
theorem cmpl_mem {B : List Nat} {x : Nat} : ∀ {l : List Nat}, x ∈ cmpl B l → memN B x = false
  | [], h => by simp [cmpl] at h
  | y :: r, h => by
    simp only [cmpl] at h
    cases hb : memN B y with
    | true => rw [hb] at h; exact cmpl_mem h
    | false =>
      rw [hb] at h
      rcases List.mem_cons.1 h with rfl | h
      · exact hb
      · exact cmpl_mem h
def hasJl : List CV → Bool | [] => false | .junk :: _ => true | _ :: r => hasJl r
def hasJp : PV → Bool | .c .junk => true | .c _ => false | .agg l => hasJl l | .clo _ l => hasJl l
def hasJps : List PV → Bool | [] => false | p :: r => hasJp p || hasJps r
def hasJ : SV → Bool | .p x => hasJp x | .gd _ _ x => hasJp x | .tup l => hasJps l
def addF : List (Nat × SV) → List (Nat × SV) → List (Nat × SV)
  | base, [] => base
  | base, (i, v) :: r => addF (match lk base i with
    | none => (i, v) :: base
    | some u => bif hasJ u then up base i v else base) r
theorem addF_ok {R : Nat → SV → Prop} : ∀ {old base : List (Nat × SV)}, once base = true → once old = true → (∀ i v, lk base i = some v → R i v) → (∀ i v, lk old i = some v → R i v) → once (addF base old) = true ∧ ∀ i v, lk (addF base old) i = some v → R i v
  | [], base, h1, _, h3, _ => ⟨h1, h3⟩
  | (i, v) :: r, base, h1, h2, h3, h4 => by
    simp only [addF]
    simp only [once, Bool.and_eq_true] at h2
    have hv : R i v := h4 i v (by simp [lk])
    have hr : ∀ k u, lk r k = some u → R k u := fun k u hk => by
      refine h4 k u ?_
      simp only [lk]
      cases hb : Nat.beq i k with
      | false => exact hk
      | true => have := beq_eq hb; subst this; rw [hk] at h2; exact absurd h2.1 (by simp)
    split
    · rename_i hn
      refine addF_ok ?_ h2.2 ?_ hr
      · simp only [once, Bool.and_eq_true]; exact ⟨by rw [hn], h1⟩
      · intro k u hk
        simp only [lk] at hk
        cases hb : Nat.beq i k with
        | false => rw [hb] at hk; exact h3 k u hk
        | true => rw [hb] at hk; have := beq_eq hb; subst this; simp only [cond_true, Option.some.injEq] at hk; subst hk; exact hv
    · rename_i u0 hu0
      cases hj : hasJ u0 with
      | false => exact addF_ok h1 h2.2 h3 hr
      | true =>
        refine addF_ok (once_up h1) h2.2 ?_ hr
        intro k u hk
        simp only [cond_true, up, lk] at hk
        cases hb : Nat.beq i k with
        | false => rw [hb] at hk; exact h3 k u (lk_rm_once h1 hk)
        | true => rw [hb] at hk; have := beq_eq hb; subst this; simp only [cond_true, Option.some.injEq] at hk; subst hk; exact hv
def mergeS (s s' : SS) (m : List Nat) (dst : Option Nat) : SS :=
  { nt := s.nt, fr := addF (renF (backN s.hp.length m) s'.fr) (renF (aftN s.hp m) (match dst with | some d => rm s.fr d | none => s.fr)), hp := mrgH s.hp s'.hp m }
theorem put_mono {P : Program} {o : Oper} {a : Act} {w : World} {n : Act → World → Prop} {Q : Exit → Act → World → Prop} (h : o.wp P a w n Q) : o.wp P a w (fun a' w' => n a' w' ∧ ∃ u, a'.tmps = (a.put o.dst u).tmps) Q := by
  have pd : ∀ (d : Deferred) (u : Value), (({ a with defers := d :: a.defers } : Act).put o.dst u).tmps = (a.put o.dst u).tmps := by intro d u; cases hd : o.dst <;> simp [Act.put]
  unfold Oper.wp Oper.upon at *
  split at h
  · exact ⟨h, _, rfl⟩
  · exact ⟨h, _, rfl⟩
  · exact ⟨h, _, pd _ _⟩
  · refine h.mono ?_
    intro e w' he
    cases e with
    | returned v => exact ⟨he, _, rfl⟩
    | panicked c => exact he
    | outgrown => exact he
  · refine h.mono ?_
    intro e w' he
    exact ⟨he, _, rfl⟩
  · exact h
  · exact h.elim
def viewsL : List CV → List Nat
  | [] => []
  | .view _ b _ _ :: r => b :: viewsL r
  | _ :: r => viewsL r
def viewsPs : List (Nat × PV) → List Nat
  | [] => []
  | (_, p) :: r => viewsL (cellsOfP p) ++ viewsPs r
def dedupN : List Nat → List Nat
  | [] => []
  | a :: r => bif memN r a then dedupN r else a :: dedupN r
/-- The blocks that the operation may come near to. -/
def nearTo (B : List Nat) (o : Oper) (s : SS) : List Nat :=
  match o.op with
  | .buildSlice _ _ parts => match evParts s [] parts.toList with
    | some ps => cmpl B (dedupN (viewsPs ps))
    | none => []
  | .makeSlice .. => [] | .alloc .. => []
  | .call c => match c.callee, evArgs s c.args.toList with
    | .builtin .append, some ps => cmpl B (dedupN (viewsL (flatten ps)))
    | .value (.func _), some ps => cmpl B (reach s.hp 1000 (flatten ps) [])
    | _, _ => cmpl B (rangeN s.hp.length)
  | _ => cmpl B (rangeN s.hp.length)
theorem nearTo_ok {B : List Nat} {o : Oper} {s : SS} {x : Nat} (h : x ∈ nearTo B o s) : memN B x = false := by
  unfold nearTo at h
  split at h
  · split at h
    · exact cmpl_mem h
    · simp at h
  · simp at h
  · simp at h
  · split at h
    · exact cmpl_mem h
    · exact cmpl_mem h
    · exact cmpl_mem h
  · exact cmpl_mem h
section
variable (P : Program) (Γ : Gam)
/-- An operation that does not come near the blocks B. -/
def frOne (B : List Nat) (o : Oper) (s : SS) (K : SS → Prop) : Prop :=
  let m := nearTo B o s
  bif nodupN m && allLt s.hp.length m then sxOne P Γ o (restrict s m) (fun s' => bif Nat.ble m.length s'.hp.length then K (mergeS s s' m o.dst) else False) else False
end
section
variable {N : Nat} {P : Program} {Γ : Gam}
theorem frOne_ok (hΓ : GOK P Γ) {B : List Nat} {π : Pers} {ρ : Env} {o : Oper} {s : SS} {K : SS → Prop} {a : Act} {w : World} (S : Sat π ρ s a w) (h : frOne P Γ B o s K) (Q : Exit → Act → World → Prop) :
    o.wp P a w (fun a' w' => ∃ π' ρ' s', Sat π' ρ' s' a' w' ∧ Step N ρ s.hp w π ρ' s'.hp w' π' ∧ (∀ k, memN B k = true → k < s.hp.length → ρ' k = ρ k ∧ ∀ g, own (ρ k) g → w'.heap[g]? = w.heap[g]?) ∧ (∀ g, π g ≠ none → w'.heap[g]? = w.heap[g]?) ∧ s.hp.length ≤ s'.hp.length ∧ K s') Q := by
  unfold frOne at h
  dsimp only at h
  generalize hm : nearTo B o s = m at h
  have hB : ∀ x, x ∈ m → memN B x = false := fun x hx => nearTo_ok (by rw [hm]; exact hx)
  cases hq : (nodupN m && allLt s.hp.length m) with
  | false => rw [hq] at h; exact h.elim
  | true =>
    rw [hq] at h
    simp only [cond_true] at h
    simp only [Bool.and_eq_true] at hq
    obtain ⟨hn, hl⟩ := hq
    have S1 := sat_restrict S hn hl
    have hlen := subH_len (h := s.hp) (m := m) m
    refine Oper.wp_mono_next ?_ (put_mono (sxOne_ok (N := m.length) hΓ S1 h Q))
    rintro a' w' ⟨⟨π', ρ', s', S', St, hK⟩, u, hu⟩
    cases hml : Nat.ble m.length s'.hp.length with
    | false => rw [hml] at hK; exact hK.elim
    | true =>
      rw [hml] at hK
      simp only [cond_true] at hK
      have hml := Nat.le_of_ble_eq_true hml
      have St : Step m.length (envOf ρ m) (subH s.hp m m) w π ρ' s'.hp w' π' := St
      have hpf : ∀ g vs, π' g = some vs → π g = some vs ∨ (∃ j, j < m.length ∧ own (envOf ρ m j) g) ∨ w.heap.size ≤ g := by
        intro g vs hg
        rcases St.pfresh g vs hg with h0 | ⟨j, hj, hr⟩ | hge
        · exact .inl h0
        · exact .inr (.inl ⟨j, by rw [hlen] at hj; exact hj, hr⟩)
        · exact .inr (.inr hge)
      have HM := hsat_mrg S.hs hn hl St S'.hs hml St.pmono hpf
      have SM := step_mrg (N := N) S.hs hn hl St hml S'.hs St.pmono hpf
      have hR2 := ren_aft S.hs hn St
      have hR1 := ren_back (ρ := ρ) hn hl S'.hs
      have hloc : ∀ j g, own (envOf ρ m j) g → ∃ b, b ∈ m ∧ b < s.hp.length ∧ own (ρ b) g := by
        intro j g hj
        obtain ⟨b, hb, h1⟩ := own_env hj
        exact ⟨b, List.mem_of_getElem? hb, allLt_ok hl j b hb, h1⟩
      have hold : ∀ i v, lk (renF (aftN s.hp m) (match o.dst with | some d => rm s.fr d | none => s.fr)) i = some v → SlotIs π' (mrgE s.hp.length m s'.hp.length ρ ρ') a'.tmps i v := by
        intro i v hi
        obtain ⟨x, hx, rfl⟩ := lk_ren hi
        refine slot_ren hR2 _ (slot_up St.pmono (fun _ _ h => h) x ?_)
        rw [hu]
        cases hd : o.dst with
        | none => rw [hd] at hx; exact S.fs i x hx
        | some d =>
          rw [hd] at hx
          obtain ⟨h1, h2, _⟩ := lk_rm s.fr d i x hx
          exact slot_put u h1 x h2 (S.fs i x (lk_rm_once S.on hx))
      have hnew : ∀ i v, lk (renF (backN s.hp.length m) s'.fr) i = some v → SlotIs π' (mrgE s.hp.length m s'.hp.length ρ ρ') a'.tmps i v := by
        intro i v hi
        obtain ⟨x, hx, rfl⟩ := lk_ren hi
        exact slot_ren hR1 _ (S'.fs i x hx)
      have hoo : once (renF (aftN s.hp m) (match o.dst with | some d => rm s.fr d | none => s.fr)) = true := by
        cases o.dst with
        | none => exact once_ren S.on
        | some d => exact once_ren (once_rm S.on)
      obtain ⟨ho, hf⟩ := addF_ok (once_ren S'.on) hoo hnew hold
      refine ⟨π', mrgE s.hp.length m s'.hp.length ρ ρ', mergeS s s' m o.dst, ⟨HM, hf, S'.df, ?_, ho⟩, SM, ?_, ?_, ?_, hK⟩
      · rw [hu]
        show _ = s.nt
        rw [← S.nt]
        cases o.dst <;> simp [Act.put]
      · intro k hk hkl
        have hpk : posOf m k = none := by
          cases hp : posOf m k with
          | none => rfl
          | some j => have := hB k (List.mem_of_getElem? (posOf_get hp)); rw [hk] at this; cases this
        refine ⟨mrg_out hkl hpk, fun g hr => ?_⟩
        refine St.block g (S.hs.lt k hkl g hr) (fun j _ hj => ?_)
        obtain ⟨b, hb, hbl, hrb⟩ := hloc j g hj
        have := S.hs.inj k b g hkl hbl hr hrb
        subst this
        have := hB k hb
        rw [hk] at this; cases this
      · intro g hg
        cases hπ : π g with
        | none => exact absurd hπ hg
        | some vs =>
          obtain ⟨e, f, he⟩ := S.hs.pers.1 g vs hπ
          refine St.block g (Array.getElem?_eq_some_iff.1 he).1 (fun j _ hj => ?_)
          obtain ⟨b, hb, hbl, hrb⟩ := hloc j g hj
          have := S.hs.apart b g hbl hrb
          rw [hπ] at this; cases this
      · show s.hp.length ≤ (mrgH s.hp s'.hp m).length
        unfold mrgH
        rw [List.length_append, mrgO_len]
        omega
end

/-! ### whatever order is picked: the first n operations -/
section
variable {P : Program} {ops : Array Oper} {Q : Exit → Act → World → Prop} {md : Region.Mode} {S : World → Prop} {n : Nat} {L : Array Bool → Act → World → Prop}
def wpHL (P : Program) (md : Region.Mode) (ops : Array Oper) (Q : Exit → Act → World → Prop) (S : World → Prop) (n : Nat) (L : Array Bool → Act → World → Prop) : Nat → Array Bool → Act → World → Prop
  | 0, listed, a, w => L listed a w
  | f + 1, listed, a, w => Region.ready md ops listed ≠ [] ∧ ∀ i ∈ Region.ready md ops listed, i < n ∧ wpOp P ops Q i (fun a' w' => S w' ∧ wpHL P md ops Q S n L f (listed.setIfInBounds i true) a' w') a w
theorem wpHL_any {g : Nat} (hL : ∀ listed a w, L listed a w → wpAny P md ops Q g listed a w) : ∀ (f : Nat) (listed : Array Bool) (a : Act) (w : World), wpHL P md ops Q S n L f listed a w → wpAny P md ops Q (f + g) listed a w
  | 0, listed, a, w, h => by rw [Nat.zero_add]; exact hL _ _ _ h
  | f + 1, listed, a, w, h => by
    rw [show f + 1 + g = (f + g) + 1 by omega]
    exact ⟨fun h0 => absurd h0 h.1, fun i hi => wpOp_mono (fun a' w' h' => wpHL_any hL f _ a' w' h'.2) (h.2 i hi).2⟩
theorem wpHL_first {i : Nat} {oi : Oper} {v : Value} (hi : ops[i]? = some oi) (hsel : ∀ (j : Nat) (o : Oper) cs b, ops[j]? = some o → o.op ≠ .select cs b) (hin : i < n)
    (htl : ∀ (listed : Array Bool), HeadInv md ops n listed → listed.getD i true = false → ∀ t, n ≤ t → t ∉ Region.ready md ops listed)
    (hQ : ∀ c a w, Q (.panic c) (a.put oi.dst v) w → Q (.panic c) a w)
    (hdone : ∀ listed a w, L listed a w → ∀ j ∈ Region.ready md ops listed, n ≤ j) :
    ∀ (f : Nat) (listed : Array Bool) (a : Act) (w : World), HeadInv md ops n listed →
      (∀ j oj, ops[j]? = some oj → j ≠ i → listed.getD j true = false → (∀ e ∈ oj.after, Region.binds md e = true → e.on ≠ i) → oi.apart ops oj = true) →
      i ∈ Region.ready md ops listed → YieldsIf P ops S oi v a → S w →
      wpHL P md ops Q S n L f (listed.setIfInBounds i true) (a.put oi.dst v) w → wpHL P md ops Q S n L (f + 1) listed a w := by
  intro f
  induction f with
  | zero =>
    intro listed a w inv hfree hr hy hS H
    refine ⟨fun h => (by rw [h] at hr; cases hr), fun j hj => ?_⟩
    have hjn : j < n := by
      rcases Nat.lt_or_ge j n with h | h
      · exact h
      · exact absurd hj (htl listed inv (mem_ready.1 hr).1 j h)
    refine ⟨hjn, ?_⟩
    by_cases hji : j = i
    · subst hji; exact hy.wpOp hi hS ⟨hS, H⟩
    · have := hdone _ _ _ H j (ready_mono hj hji)
      omega
  | succ f ih =>
    intro listed a w inv hfree hr hy hS H
    have hun := (mem_ready.1 hr).1
    refine ⟨fun h => (by rw [h] at hr; cases hr), fun j hj => ?_⟩
    have hjn : j < n := by
      rcases Nat.lt_or_ge j n with h | h
      · exact h
      · exact absurd hj (htl listed inv hun j h)
    refine ⟨hjn, ?_⟩
    by_cases hji : j = i
    · subst hji; exact hy.wpOp hi hS ⟨hS, H⟩
    · have h1 := (H.2 j (ready_mono hj hji)).2
      obtain ⟨hjun, oj, hoj, hall⟩ := mem_ready.1 hj
      have hnot : ∀ e ∈ oj.after, Region.binds md e = true → e.on ≠ i := fun e he hb heq => by
        have h2 := hall e he hb
        rw [heq, getD_both hun] at h2
        cases h2
      have h2 := wpOp_putIf hoj (hfree j oj hoj hji hjun hnot) (fun cs b => hsel i oi cs b hi) (fun cs b => hsel j oj cs b hoj) hQ hy h1
      have hfree' : ∀ k ok, ops[k]? = some ok → k ≠ i → (listed.setIfInBounds j true).getD k true = false →
          (∀ e ∈ ok.after, Region.binds md e = true → e.on ≠ i) → oi.apart ops ok = true := fun k ok hk hki hun hno => by
        refine hfree k ok hk hki ?_ hno
        by_cases hjk : j = k
        · subst hjk; exact hjun
        · rw [getD_set_ne true hjk] at hun; exact hun
      refine wpOp_mono (fun a' w' h3 => ⟨h3.2.1, ih (listed.setIfInBounds j true) a' w' (inv.set hj hjn) hfree' (ready_mono hr (Ne.symm hji)) h3.1 h3.2.1 ?_⟩) h2
      rw [Array.setIfInBounds_comm _ _ hji]
      exact h3.2.2
end

/-! ### the evaluation -/
def goneH (B : List Nat) : Nat → List HB → List HB
  | _, [] => []
  | k, it :: r => (bif memN B k then it else .gone) :: goneH B (k + 1) r
def gB (B : List Nat) (s : SS) : SS := { s with hp := goneH B 0 s.hp }
theorem goneH_get {B : List Nat} : ∀ {h : List HB} {k i : Nat} {it : HB}, (goneH B k h)[i]? = some it → (it = .gone) ∨ (memN B (k + i) = true ∧ h[i]? = some it)
  | [], k, i, it, h => by simp [goneH] at h
  | x :: r, k, 0, it, h => by
    simp only [goneH, List.getElem?_cons_zero, Option.some.injEq] at h
    cases hb : memN B k with
    | false => rw [hb] at h; exact .inl h.symm
    | true => rw [hb] at h; subst h; exact .inr ⟨by first | rfl | exact hb, rfl⟩
  | x :: r, k, i + 1, it, h => by
    simp only [goneH, List.getElem?_cons_succ] at h
    rcases goneH_get h with h | ⟨h1, h2⟩
    · exact .inl h
    · exact .inr ⟨by rw [show k + (i + 1) = k + 1 + i by omega]; exact h1, by rw [List.getElem?_cons_succ]; exact h2⟩
theorem goneH_len {B : List Nat} : ∀ {h : List HB} {k : Nat}, (goneH B k h).length = h.length
  | [], _ => rfl
  | _ :: r, k => by simp only [goneH, List.length_cons, goneH_len (h := r)]
theorem sat_gone {π : Pers} {ρ : Env} {s : SS} {a : Act} {w : World} (B : List Nat) (S : Sat π ρ s a w) : Sat π ρ (gB B s) a w := by
  have hl : (gB B s).hp.length = s.hp.length := goneH_len
  refine ⟨⟨fun k it hk => ?_, fun k hk => S.hs.lt k (by rw [← hl]; exact hk), fun k k' g hk hk' => S.hs.inj k k' g (by rw [← hl]; exact hk) (by rw [← hl]; exact hk'), fun k g hk => S.hs.apart k g (by rw [← hl]; exact hk), S.hs.pers, fun k hk => S.hs.out k (by rw [← hl]; exact hk)⟩, S.fs, S.df, S.nt, S.on⟩
  rcases goneH_get hk with rfl | ⟨_, h2⟩
  · trivial
  · exact S.hs.items k it h2
section
variable (P : Program) (Γ : Gam)
def takeOk (all : List Oper) (B : List Nat) (flag : Bool) (listed : Array Bool) (s : SS) (i : Nat) : Bool :=
  match nth all i with
  | some o => (match o.guard with
    | none => (pureX P (gB B s) [] o).isSome && !(flag && eL (gB B s) [] o)
    | some (g, want) => match nth all g with
      | some og => match og.dst, o.dst with
        | some j, some d => (pureX P (gB B s) [(j, want)] o).isSome && !(flag && eL (gB B s) [(j, want)] o) && Nat.blt d s.nt && !(Nat.beq j d)
        | _, _ => false
      | none => false) && Region.free .any all.toArray listed i
  | none => false
def pickI (f : Nat → Bool) : List Nat → Option Nat
  | [] => none
  | i :: r => bif f i then some i else pickI f r
/-- An operation that is done where b is as is wanted. -/
def gdFr (B : List Nat) (o : Oper) (j : Nat) (b want : Bool) (s : SS) (K : SS → Prop) : Prop := match want with
  | true => bif b then frOne P Γ B o (know s j true) K else skipS P o j want (know s j false) K
  | false => bif b then skipS P o j want (know s j true) K else frOne P Γ B o (know s j false) K
def isLd (o : Oper) : Bool := match o.op with | .load .. => true | _ => false
/-- A load: it writes nothing, whatever it reads. -/
def stLd (B : List Nat) (o : Oper) (s : SS) (K : SS → Prop) : Prop := match isLd o, pureX P s [] o with
  | true, some (ob, fc, x) => obl ob (fct fc (putK s o.dst (.p x) K))
  | _, _ => frOne P Γ B o s K
def stOne (all : List Oper) (B : List Nat) (o : Oper) (s : SS) (K : SS → Prop) : Prop :=
  match o.guard with
  | none => stLd P Γ B o s K
  | some (g, want) => match nth all g with
    | some og => match og.dst with
      | some j => match lk s.fr j with
        | some (.p (.c (.bool b))) => gdFr P Γ B o j b want s K
        | some (.gd j' b' (.c (.bool b))) => match lk s.fr j' with
          | some (.p (.c (.bool c))) => (match b' with
            | true => bif c then gdFr P Γ B o j b want (know s j' true) K else skipS P o j want (know s j' false) K
            | false => bif c then skipS P o j want (know s j' true) K else gdFr P Γ B o j b want (know s j' false) K)
          | _ => False
        | _ => False
      | none => False
    | none => False
/-- The first n operations, in whatever order: what reads alone (of the blocks B, or of what lasts) is taken first; the others must come one by one. -/
def sxDr (all : List Oper) (B : List Nat) (n : Nat) : Nat → Array Bool → Bool → SS → (SS → Prop) → Prop
  | 0, listed, _, s, K => bif Region.seqB .any all.toArray (all.length - n) n listed then K s else False
  | f + 1, listed, flag, s, K => match Region.ready .any all.toArray listed with
    | [] => False
    | r :: rs => match pickI (takeOk P all B flag listed s) (r :: rs) with
      | some i => bif Nat.blt i n then (match nth all i with
        | some o => match o.guard with
          | none => match pureX P (gB B s) [] o with
            | some (ob, fc, x) => obl ob (fct fc (putK s o.dst (.p x) (fun s' => sxDr all B n f (listed.setIfInBounds i true) flag s' K)))
            | none => False
          | some (g, want) => match nth all g with
            | some og => match og.dst, o.dst with
              | some j, some d => match pureX P (gB B s) [(j, want)] o with
                | some (ob, _, x) => oblIf (gcond s.fr j want) ob (sxDr all B n f (listed.setIfInBounds i true) flag (setF s d (.gd j want x)) K)
                | none => False
              | _, _ => False
            | none => False
        | none => False) else False
      | none => match rs with
        | [] => bif Nat.blt r n then (match nth all r with
          | some o => stOne P Γ all B o s (fun s' => sxDr all B n f (listed.setIfInBounds r true) true s' K)
          | none => False) else False
        | [q] => (bif Nat.blt r n then (match nth all r with
          | some o => stOne P Γ all B o s (fun s' => sxDr all B n f (listed.setIfInBounds r true) true s' K)
          | none => False) else False) ∧ (bif Nat.blt q n then (match nth all q with
          | some o => stOne P Γ all B o s (fun s' => sxDr all B n f (listed.setIfInBounds q true) true s' K)
          | none => False) else False)
        | [q, u] => (bif Nat.blt r n then (match nth all r with
          | some o => stOne P Γ all B o s (fun s' => sxDr all B n f (listed.setIfInBounds r true) true s' K)
          | none => False) else False) ∧ (bif Nat.blt q n then (match nth all q with
          | some o => stOne P Γ all B o s (fun s' => sxDr all B n f (listed.setIfInBounds q true) true s' K)
          | none => False) else False) ∧ (bif Nat.blt u n then (match nth all u with
          | some o => stOne P Γ all B o s (fun s' => sxDr all B n f (listed.setIfInBounds u true) true s' K)
          | none => False) else False)
        | _ :: _ :: _ :: _ => False
end
theorem pickI_ok {f : Nat → Bool} : ∀ {l : List Nat} {i : Nat}, pickI f l = some i → i ∈ l ∧ f i = true
  | [], i, h => by simp [pickI] at h
  | x :: r, i, h => by
    simp only [pickI] at h
    cases hb : f x with
    | true => rw [hb] at h; simp only [cond_true, Option.some.injEq] at h; subst h; exact ⟨by simp, hb⟩
    | false => rw [hb] at h; obtain ⟨h1, h2⟩ := pickI_ok h; exact ⟨by simp [h1], h2⟩
section
variable {N : Nat} {P : Program} {Γ : Gam}
/-- What goes along with the state through such a region. -/
structure DrI (B : List Nat) (π0 : Pers) (ρ0 : Env) (w0 : World) (flag : Bool) (s : SS) (π : Pers) (ρ : Env) (a : Act) (w : World) : Prop where
  sat : Sat π ρ s a w
  old : ∀ g, (π0 g ≠ none ∨ ∃ k, memN B k = true ∧ own (ρ0 k) g) → w.heap[g]? = w0.heap[g]?
  mono : ∀ g vs, π0 g = some vs → π g = some vs
  same : flag = false → π = π0
  keep : ∀ k, memN B k = true → ρ k = ρ0 k ∧ k < s.hp.length
abbrev OldW (B : List Nat) (π0 : Pers) (ρ0 : Env) (w0 : World) : World → Prop := fun w => ∀ g, (π0 g ≠ none ∨ ∃ k, memN B k = true ∧ own (ρ0 k) g) → w.heap[g]? = w0.heap[g]?
theorem DrI.alike {B : List Nat} {π0 : Pers} {ρ0 : Env} {w0 : World} {flag e : Bool} {s : SS} {π : Pers} {ρ : Env} {a : Act} {w w' : World} (I : DrI B π0 ρ0 w0 flag s π ρ a w) (he : (!(flag && e)) = true) (hw : OldW B π0 ρ0 w0 w') : Alike (pz e π) ρ (gB B s).hp w w' := by
  intro g hg
  have key : (π0 g ≠ none ∨ ∃ k, memN B k = true ∧ own (ρ0 k) g) := by
    rcases hg with hg | ⟨k, it, hk, hit, hr⟩
    · cases e with
      | false => simp [pz] at hg
      | true =>
        have hf : flag = false := by simpa using he
        rw [I.same hf] at hg
        exact .inl (by simpa [pz] using hg)
    · rcases goneH_get hk with h | ⟨h1, _⟩
      · exact absurd h hit
      · rw [Nat.zero_add] at h1
        exact .inr ⟨k, h1, by rw [← (I.keep k h1).1]; exact hr⟩
  rw [hw g key, I.old g key]

abbrev Fr (N : Nat) (B : List Nat) (π : Pers) (ρ : Env) (s : SS) (w : World) (K : SS → Prop) (a' : Act) (w' : World) : Prop :=
  ∃ π' ρ' s', Sat π' ρ' s' a' w' ∧ Step N ρ s.hp w π ρ' s'.hp w' π' ∧ (∀ k, memN B k = true → k < s.hp.length → ρ' k = ρ k ∧ ∀ g, own (ρ k) g → w'.heap[g]? = w.heap[g]?) ∧ (∀ g, π g ≠ none → w'.heap[g]? = w.heap[g]?) ∧ s.hp.length ≤ s'.hp.length ∧ K s'
theorem fr_know {B : List Nat} {π : Pers} {ρ : Env} {s : SS} {a : Act} {w w' : World} {j : Nat} {b : Bool} {K : SS → Prop} (h : Fr N B π ρ (know s j b) w K a w') : Fr N B π ρ s w K a w' := h
theorem stLd_ok (hΓ : GOK P Γ) {B : List Nat} {π : Pers} {ρ : Env} {o : Oper} {s : SS} {K : SS → Prop} {a : Act} {w : World} (S : Sat π ρ s a w) (h : stLd P Γ B o s K) (Q : Exit → Act → World → Prop) :
    o.wp P a w (Fr N B π ρ s w K) Q := by
  unfold stLd at h
  split at h
  · rename_i ob fc x _ hp
    obtain ⟨hob, hK'⟩ := obl_out h
    obtain ⟨hf, u, hr, hd⟩ := pureX_ok S (gh_nil _) hp hob
    obtain ⟨s', g1, g2, g3⟩ := putK_ok S hd (fct_out hK' hf)
    simp only [Oper.wp, hr, Oper.upon]
    exact ⟨π, ρ, s', g1, by rw [g3]; exact Step.refl _ _ _ _ _, fun _ _ _ => ⟨rfl, fun _ _ => rfl⟩, fun _ _ => rfl, by rw [g3]; exact Nat.le_refl _, g2⟩
  · exact frOne_ok (N := N) hΓ S h Q
theorem stOne_ok (hΓ : GOK P Γ) {all : List Oper} {B : List Nat} {π : Pers} {ρ : Env} {o : Oper} {s : SS} {K : SS → Prop} {a : Act} {w : World} (S : Sat π ρ s a w) (h : stOne P Γ all B o s K) (Q : Exit → Act → World → Prop) :
    if Region.wanted o (yielded all.toArray a.tmps) then o.wp P a w (Fr N B π ρ s w K) Q else Fr N B π ρ s w K (a.put o.dst undef) w := by
  unfold stOne at h
  split at h
  · rename_i hgd
    rw [if_pos (by simp [Region.wanted, hgd])]
    exact stLd_ok (N := N) hΓ S h Q
  · rename_i g want hgd
    split at h
    · rename_i og hog
      rw [nth_eq] at hog
      split at h
      · rename_i j hj
        have hw : Region.wanted o (yielded all.toArray a.tmps) = true ↔ a.tmps[j]? = some (.bool want) := by
          simp only [Region.wanted, hgd]
          exact yield_iff hog hj a.tmps
        have skip : ∀ s1 : SS, Sat π ρ s1 a w → s1.hp = s.hp → a.tmps[j]? ≠ some (.bool want) → skipS P o j want s1 K → if Region.wanted o (yielded all.toArray a.tmps) then o.wp P a w (Fr N B π ρ s w K) Q else Fr N B π ρ s w K (a.put o.dst undef) w := by
          intro s1 S1 hs1 hne hh
          rw [if_neg (fun hy => hne (hw.1 hy))]
          unfold skipS at hh
          cases hd : o.dst with
          | none => rw [hd] at hh; exact ⟨π, ρ, s1, S1, by rw [hs1]; exact Step.refl _ _ _ _ _, fun _ _ _ => ⟨rfl, fun _ _ => rfl⟩, fun _ _ => rfl, by rw [hs1]; exact Nat.le_refl _, hh⟩
          | some d =>
            rw [hd] at hh
            simp only at hh
            cases hjd : (Nat.blt d s1.nt && !(Nat.beq j d)) with
            | false => rw [hjd] at hh; exact hh.elim
            | true =>
              rw [hjd] at hh
              simp only [cond_true] at hh
              simp only [Bool.and_eq_true, Bool.not_eq_true'] at hjd
              have hdn : d < s1.nt := by simpa [Nat.blt_eq] using hjd.1
              have hjd := beq_ne hjd.2
              have hlen : d < a.tmps.size := by rw [S1.nt]; exact hdn
              refine ⟨π, ρ, _, sat_set S1 hdn undef (.gd j want (skipX P o)) ⟨undef, ?_, .inr ⟨?_, rfl⟩⟩, ?_, fun _ _ _ => ⟨rfl, fun _ _ => rfl⟩, fun _ _ => rfl, ?_, hh⟩
              · rw [Array.getElem?_setIfInBounds_self_of_lt hlen]
              · rw [Array.getElem?_setIfInBounds_ne (fun e => hjd e.symm)]; exact hne
              · show Step N ρ s.hp w π ρ s1.hp w π
                rw [hs1]; exact Step.refl _ _ _ _ _
              · show s.hp.length ≤ s1.hp.length
                rw [hs1]; exact Nat.le_refl _
        have run : ∀ (s1 : SS) (b : Bool), Sat π ρ s1 a w → s1.hp = s.hp → a.tmps[j]? = some (.bool b) → gdFr P Γ B o j b want s1 K → if Region.wanted o (yielded all.toArray a.tmps) then o.wp P a w (Fr N B π ρ s w K) Q else Fr N B π ρ s w K (a.put o.dst undef) w := by
          intro s1 b S1 hs1 h1 hh
          have exe : ∀ s2 : SS, Sat π ρ s2 a w → s2.hp = s.hp → b = want → frOne P Γ B o s2 K → if Region.wanted o (yielded all.toArray a.tmps) then o.wp P a w (Fr N B π ρ s w K) Q else Fr N B π ρ s w K (a.put o.dst undef) w := by
            intro s2 S2 hs2 hbw hh
            rw [if_pos (hw.2 (by rw [h1, hbw]))]
            have := frOne_ok (N := N) hΓ S2 hh Q
            rw [hs2] at this
            exact this
          unfold gdFr at hh
          cases b with
          | true =>
            cases want with
            | true => exact exe _ (sat_know S1 h1) hs1 rfl hh
            | false => exact skip _ (sat_know S1 h1) hs1 (by rw [h1]; simp) hh
          | false =>
            cases want with
            | true => exact skip _ (sat_know S1 h1) hs1 (by rw [h1]; simp) hh
            | false => exact exe _ (sat_know S1 h1) hs1 rfl hh
        split at h
        · rename_i b hb
          obtain ⟨v, h1, h2⟩ := S.fs j _ hb
          simp only [DenP, DenC] at h2
          subst h2
          exact run s b S rfl h1 h
        · rename_i j' b' b hb
          obtain ⟨v, h1, h2⟩ := S.fs j _ hb
          split at h
          · rename_i c hc
            obtain ⟨v', h1', h2'⟩ := S.fs j' _ hc
            simp only [DenP, DenC] at h2'
            subst h2'
            have same : c = b' → a.tmps[j]? = some (.bool b) := fun hcb => by
              rcases h2 with ⟨_, h2⟩ | ⟨h2, _⟩
              · simp only [DenP, DenC] at h2; rw [h1, h2]
              · exact absurd (by rw [h1', hcb]) h2
            have other : c ≠ b' → a.tmps[j]? ≠ some (.bool want) := fun hcb => by
              rcases h2 with ⟨h2, _⟩ | ⟨_, h2⟩
              · rw [h1'] at h2; simp only [Option.some.injEq, Value.bool.injEq] at h2; exact absurd h2 hcb
              · rw [h1, h2]; simp [undef]
            split at h
            · cases c with
              | true => exact run _ b (sat_know S h1') rfl (same rfl) h
              | false => exact skip _ (sat_know S h1') rfl (other (by simp)) h
            · cases c with
              | true => exact skip _ (sat_know S h1') rfl (other (by simp)) h
              | false => exact run _ b (sat_know S h1') rfl (same rfl) h
          · exact h.elim
        · exact h.elim
      · exact h.elim
    · exact h.elim
theorem sxDr_ok (hΓ : GOK P Γ) {all : List Oper} {B : List Nat} {n : Nat} {π0 : Pers} {ρ0 : Env} {w0 : World} {Q : Exit → Act → World → Prop} {K : SS → Prop} {πs : Pers} {ρs : Env} {hs : List HB} {ws : World}
    (hsel : Region.noSelect all.toArray = true) (htl : ∀ (i : Nat), i < n → ∀ (listed : Array Bool), HeadInv .any all.toArray n listed → listed.getD i true = false → ∀ t, n ≤ t → t ∉ Region.ready .any all.toArray listed)
    (hQ : ∀ c a w, ¬ Q (.panic c) a w) (hK : ∀ s π ρ a w, Sat π ρ s a w → Step N ρs hs ws πs ρ s.hp w π → K s → wpList P all.toArray Q (all.drop n) a w) :
    ∀ (f : Nat) (listed : Array Bool) (flag : Bool) (s : SS) (π : Pers) (ρ : Env) (a : Act) (w : World), HeadInv .any all.toArray n listed → DrI B π0 ρ0 w0 flag s π ρ a w → Step N ρs hs ws πs ρ s.hp w π → sxDr P Γ all B n f listed flag s K →
      wpHL P .any all.toArray Q (OldW B π0 ρ0 w0) n (fun listed a w => Region.seqB .any all.toArray (all.length - n) n listed = true ∧ wpList P all.toArray Q (all.drop n) a w) f listed a w
  | 0, listed, flag, s, π, ρ, a, w, inv, I, St, h => by
    simp only [sxDr] at h
    cases hb : Region.seqB .any all.toArray (all.length - n) n listed with
    | false => rw [hb] at h; exact h.elim
    | true => rw [hb] at h; exact ⟨hb, hK s π ρ a w I.sat St h⟩
  | f + 1, listed, flag, s, π, ρ, a, w, inv, I, St, h => by
    have ih := sxDr_ok (B := B) (π0 := π0) (ρ0 := ρ0) (w0 := w0) hΓ hsel htl hQ hK f
    simp only [sxDr] at h
    split at h
    · exact h.elim
    · rename_i r rs hrs
      split at h
      · rename_i i hpk
        obtain ⟨hmem, htk⟩ := pickI_ok hpk
        cases hin : Nat.blt i n with
        | false => rw [hin] at h; exact h.elim
        | true =>
          rw [hin] at h
          simp only [cond_true] at h
          have hin : i < n := by simpa [Nat.blt_eq] using hin
          have hr : i ∈ Region.ready .any all.toArray listed := by rw [hrs]; exact hmem
          split at h
          · rename_i o ho
            have ho' : all.toArray[i]? = some o := by rw [nth_eq] at ho; simpa using ho
            unfold takeOk at htk
            rw [ho] at htk
            simp only [Bool.and_eq_true] at htk
            obtain ⟨htk, hfree⟩ := htk
            have first : ∀ (v : Value) (s' : SS), YieldsIf P all.toArray (OldW B π0 ρ0 w0) o v a → Sat π ρ s' (a.put o.dst v) w → s'.hp = s.hp → sxDr P Γ all B n f (listed.setIfInBounds i true) flag s' K →
                wpHL P .any all.toArray Q (OldW B π0 ρ0 w0) n (fun listed a w => Region.seqB .any all.toArray (all.length - n) n listed = true ∧ wpList P all.toArray Q (all.drop n) a w) (f + 1) listed a w := by
              intro v s' hy S' hh hd
              refine wpHL_first ho' (Region.noSelect_spec hsel) hin (htl i hin) (fun c a w hq => absurd hq (hQ _ _ _)) (fun l a w hl => seqB_ready hl.1) f listed a w inv (Region.free_spec ho' hfree) hr hy I.old ?_
              refine ih _ flag s' π ρ _ w (inv.set hr hin) ⟨S', I.old, I.mono, I.same, fun k hk => ?_⟩ (by rw [hh]; exact St) hd
              rw [hh]; exact I.keep k hk
            split at h
            · rename_i hgd
              rw [hgd] at htk
              simp only [Bool.and_eq_true] at htk
              split at h
              · rename_i ob fc x hp
                obtain ⟨hob, hK'⟩ := obl_out h
                obtain ⟨hf, u, hrun, hden⟩ := pureX_u (sat_gone B I.sat) (gh_nil _) hp hob
                obtain ⟨s', g1, g2, g3⟩ := putK_ok I.sat hden (fct_out hK' hf)
                exact first u s' (.inl ⟨by simp [Region.wanted, hgd], fun w' hw' => hrun w' (I.alike htk.2 hw')⟩) g1 g3 g2
              · exact h.elim
            · rename_i g want hgd
              rw [hgd] at htk
              simp only at htk
              split at h
              · rename_i og hog
                rw [hog] at htk
                simp only at htk
                have hog' := hog
                rw [nth_eq] at hog'
                split at h
                · rename_i j d hj hd
                  rw [hj, hd] at htk
                  simp only [Bool.and_eq_true, Bool.not_eq_true'] at htk
                  obtain ⟨⟨⟨hsome, hfl⟩, hdn⟩, hjd⟩ := htk
                  have hw : Region.wanted o (yielded all.toArray a.tmps) = true ↔ a.tmps[j]? = some (.bool want) := by
                    simp only [Region.wanted, hgd]
                    exact yield_iff hog' hj a.tmps
                  have hdn : d < s.nt := by simpa [Nat.blt_eq] using hdn
                  have hjd := beq_ne hjd
                  split at h
                  · rename_i ob fc x hp
                    obtain ⟨hob, hK'⟩ := oblIf_out h
                    have hlen : d < a.tmps.size := by rw [I.sat.nt]; exact hdn
                    by_cases hyes : Region.wanted o (yielded all.toArray a.tmps) = true
                    · have hT := hw.1 hyes
                      obtain ⟨_, u, hrun, hden⟩ := pureX_u (sat_gone B I.sat) (gh_cons (gh_nil _) hT) hp (hob (gcond_ok I.sat hT))
                      refine first u (setF s d (.gd j want x)) (.inl ⟨hyes, fun w' hw' => hrun w' (I.alike (by rw [hfl]; rfl) hw')⟩) ?_ rfl hK'
                      rw [hd]
                      refine sat_set I.sat hdn u (.gd j want x) ⟨u, ?_, .inl ⟨?_, hden⟩⟩
                      · rw [Array.getElem?_setIfInBounds_self_of_lt hlen]
                      · rw [Array.getElem?_setIfInBounds_ne (fun e => hjd e.symm)]; exact hT
                    · refine first undef (setF s d (.gd j want x)) (.inr ⟨by simpa using hyes, rfl⟩) ?_ rfl hK'
                      rw [hd]
                      refine sat_set I.sat hdn undef (.gd j want x) ⟨undef, ?_, .inr ⟨?_, rfl⟩⟩
                      · rw [Array.getElem?_setIfInBounds_self_of_lt hlen]
                      · rw [Array.getElem?_setIfInBounds_ne (fun e => hjd e.symm)]; exact fun hT => hyes (hw.2 hT)
                  · exact h.elim
                · exact h.elim
              · exact h.elim
          · exact h.elim
      · have one : ∀ i, i ∈ Region.ready .any all.toArray listed → (bif Nat.blt i n then (match nth all i with
            | some o => stOne P Γ all B o s (fun s' => sxDr P Γ all B n f (listed.setIfInBounds i true) true s' K)
            | none => False) else False) → i < n ∧ wpOp P all.toArray Q i (fun a' w' => OldW B π0 ρ0 w0 w' ∧ wpHL P .any all.toArray Q (OldW B π0 ρ0 w0) n (fun listed a w => Region.seqB .any all.toArray (all.length - n) n listed = true ∧ wpList P all.toArray Q (all.drop n) a w) f (listed.setIfInBounds i true) a' w') a w := by
          intro i hr h
          cases hin : Nat.blt i n with
          | false => rw [hin] at h; exact h.elim
          | true =>
            rw [hin] at h
            simp only [cond_true] at h
            have hin : i < n := by simpa [Nat.blt_eq] using hin
            split at h
            · rename_i o ho
              have ho' : all.toArray[i]? = some o := by rw [nth_eq] at ho; simpa using ho
              refine ⟨hin, ?_⟩
              have hst := stOne_ok (N := N) hΓ I.sat h Q
              have step : ∀ a' w', Fr N B π ρ s w (fun s' => sxDr P Γ all B n f (listed.setIfInBounds i true) true s' K) a' w' → OldW B π0 ρ0 w0 w' ∧ wpHL P .any all.toArray Q (OldW B π0 ρ0 w0) n (fun listed a w => Region.seqB .any all.toArray (all.length - n) n listed = true ∧ wpList P all.toArray Q (all.drop n) a w) f (listed.setIfInBounds i true) a' w' := by
                rintro a' w' ⟨π', ρ', s', S', St', hB, hπ, hlen, hd⟩
                have hold : OldW B π0 ρ0 w0 w' := by
                  intro g hg
                  rw [← I.old g hg]
                  rcases hg with hg | ⟨k, hk, hr0⟩
                  · refine hπ g ?_
                    cases h0 : π0 g with
                    | none => exact absurd h0 hg
                    | some vs => rw [I.mono g vs h0]; simp
                  · obtain ⟨h1, h2⟩ := I.keep k hk
                    exact (hB k hk h2).2 g (by rw [h1]; exact hr0)
                refine ⟨hold, ih _ true s' π' ρ' a' w' (inv.set hr hin) ⟨S', hold, fun g vs hg => St'.pmono g vs (I.mono g vs hg), fun h => (by cases h), fun k hk => ?_⟩ (St.trans St') hd⟩
                obtain ⟨h1, h2⟩ := I.keep k hk
                exact ⟨(hB k hk h2).1.trans h1, Nat.lt_of_lt_of_le h2 hlen⟩
              unfold wpOp
              simp only [ho']
              split at hst
              · rename_i hwt
                rw [if_pos hwt]
                exact .inl (Oper.wp_mono_next step hst)
              · rename_i hwt
                rw [if_neg hwt]
                exact step _ _ hst
            · exact h.elim
        split at h
        · refine ⟨by rw [hrs]; simp, fun i hi => ?_⟩
          have hi' := hi
          rw [hrs] at hi'
          obtain rfl : i = r := by simpa using hi'
          exact one i hi h
        · rename_i q _
          refine ⟨by rw [hrs]; simp, fun i hi => ?_⟩
          have hi' := hi
          rw [hrs] at hi'
          rcases List.mem_cons.1 hi' with rfl | hi'
          · exact one i hi h.1
          · obtain rfl : i = q := by simpa using hi'
            exact one i hi h.2
        · rename_i q u _
          refine ⟨by rw [hrs]; simp, fun i hi => ?_⟩
          have hi' := hi
          rw [hrs] at hi'
          rcases List.mem_cons.1 hi' with rfl | hi'
          · exact one i hi h.1
          · rcases List.mem_cons.1 hi' with rfl | hi'
            · exact one i hi h.2.1
            · obtain rfl : i = u := by simpa using hi'
              exact one i hi h.2.2
        · exact h.elim
end
end Go.Proofs.Ytkpepieepdmjpaa.Sx
