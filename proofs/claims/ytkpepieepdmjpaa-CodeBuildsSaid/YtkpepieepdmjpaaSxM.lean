/- A machine of abstract states over the model, part M: calls. No condition. -/
import Derived.Test.YtkpepieepdmjpaaSxL
namespace Go.Proofs.Ytkpepieepdmjpaa.Sx
open Go
set_option linter.unusedVariables false
set_option linter.unusedSimpArgs false

def DenS (π : Pers) (ρ : Env) : SV → Value → Prop
  | .p x, v => DenP π ρ x v
  | .tup l, v => DenT π ρ l v
  | .gd _ _ _, _ => False
/-- What a call of f does: from the blocks h on, it comes back with r and the blocks h', and Q holds of these. -/
def FSpec (P : Program) (f : FuncId) (args : List PV) (h : List HB) (Q : SV → List HB → Prop) : Prop :=
  ∀ π ρ w vs, HSat π ρ h w → All2 (DenP π ρ) args vs → Calls P f vs.toArray w fun e w' =>
    ∃ v π' ρ' r h', e = .returned v ∧ DenS π' ρ' r v ∧ HSat π' ρ' h' w' ∧ Step h.length ρ h w π ρ' h' w' π' ∧ Q r h'
theorem FSpec.mono {P : Program} {f : FuncId} {args : List PV} {h : List HB} {Q Q' : SV → List HB → Prop} (H : FSpec P f args h Q) (hq : ∀ r h', Q r h' → Q' r h') : FSpec P f args h Q' :=
  fun π ρ w vs hs ha => (H π ρ w vs hs ha).mono fun e w' ⟨v, π', ρ', r, h', h1, h2, h3, h4, h5⟩ => ⟨v, π', ρ', r, h', h1, h2, h3, h4, hq _ _ h5⟩

/-! ### what has no rows in it says the same under whatever is lasting -/
def Ty.flat : Ty → Bool
  | .row _ => false | .prod a b => a.flat && b.flat | .fix t => t.flat | _ => true
theorem rep_flat {π π' : Pers} : ∀ (t : Ty) (x : t.T) (cs : List Value), t.flat = true → Rep π t x cs → Rep π' t x cs
  | .int k, n, cs, _, h => h
  | .bool, b, cs, _, h => h
  | .str, s, cs, _, h => h
  | .unit, _, cs, _, h => h
  | .prod a b, x, cs, hf, h => by
    simp only [Ty.flat, Bool.and_eq_true] at hf
    obtain ⟨c, d, hc, h1, h2⟩ := h
    exact ⟨c, d, hc, rep_flat a _ _ hf.1 h1, rep_flat b _ _ hf.2 h2⟩
  | .row t, xs, cs, hf, _ => by simp [Ty.flat] at hf
  | .fix t, x, cs, hf, h => rep_flat t x cs hf h
def flatC : CV → Bool | .row _ _ => false | .eptr _ _ _ _ => false | _ => true
def flatL : List CV → Bool | [] => true | c :: r => flatC c && flatL r
def flatP : PV → Bool | .c c => flatC c | .agg l => flatL l | .clo _ l => flatL l
def flatPs : List PV → Bool | [] => true | c :: r => flatP c && flatPs r
def flatS : SV → Bool | .p x => flatP x | .tup l => flatPs l | .gd _ _ _ => false
def FT.flat : FT → Bool | .pure t => t.flat | .own _ t => t.flat
def fsFlat : List FT → Bool | [] => true | f :: r => f.flat && fsFlat r
def flatH : HB → Bool | .cells _ cs => flatL cs | .row _ t _ => t.flat | .map _ kt _ vt _ => kt.flat && vt.flat | .nest _ _ fs _ none => fsFlat fs | .nest _ _ fs _ (some (_, cs)) => fsFlat fs && flatL cs | .gone => true
def flatHs : List HB → Bool | [] => true | c :: r => flatH c && flatHs r
theorem den_flat {π π' : Pers} {ρ : Env} {c : CV} {v : Value} (hf : flatC c = true) (h : DenC π ρ c v) : DenC π' ρ c v := by
  cases c with
  | row t xs => simp [flatC] at hf
  | eptr t xs i j => simp [flatC] at hf
  | _ => exact h
theorem all2_flat {π π' : Pers} {ρ : Env} : ∀ {l : List CV} {vs : List Value}, flatL l = true → All2 (DenC π ρ) l vs → All2 (DenC π' ρ) l vs
  | [], [], _, _ => trivial
  | c :: l, v :: vs, hf, h => by simp only [flatL, Bool.and_eq_true] at hf; exact ⟨den_flat hf.1 h.1, all2_flat hf.2 h.2⟩
  | [], _ :: _, _, h => h.elim
  | _ :: _, [], _, h => h.elim
theorem denp_flat {π π' : Pers} {ρ : Env} {c : PV} {v : Value} (hf : flatP c = true) (h : DenP π ρ c v) : DenP π' ρ c v := by
  cases c with
  | c x => exact den_flat hf h
  | agg l => obtain ⟨vs, h1, h2⟩ := h; exact ⟨vs, h1, all2_flat hf h2⟩
  | clo f l => obtain ⟨vs, h1, h2⟩ := h; exact ⟨vs, h1, all2_flat hf h2⟩
theorem all2_flatP {π π' : Pers} {ρ : Env} : ∀ {l : List PV} {vs : List Value}, flatPs l = true → All2 (DenP π ρ) l vs → All2 (DenP π' ρ) l vs
  | [], [], _, _ => trivial
  | c :: l, v :: vs, hf, h => by simp only [flatPs, Bool.and_eq_true] at hf; exact ⟨denp_flat hf.1 h.1, all2_flatP hf.2 h.2⟩
  | [], _ :: _, _, h => h.elim
  | _ :: _, [], _, h => h.elim
theorem dens_flat {π π' : Pers} {ρ : Env} {r : SV} {v : Value} (hf : flatS r = true) (h : DenS π ρ r v) : DenS π' ρ r v := by
  cases r with
  | p x => exact denp_flat hf h
  | tup l => obtain ⟨vs, h1, h2⟩ := h; exact ⟨vs, h1, all2_flatP hf h2⟩
  | gd j b x => exact h.elim
theorem ent_flat {π π' : Pers} {ag : Bool} {t : Ty} {x : t.T} {v : Value} (hf : t.flat = true) (h : EntIs π ag t x v) : EntIs π' ag t x v := by
  obtain ⟨cs, h1, h2⟩ := h
  exact ⟨cs, rep_flat t x cs hf h1, h2⟩
theorem repF_flat {π π' : Pers} {w : World} : ∀ (fs : List FT) (x : FsT fs) (cs : List Value) (L : List Nat), fsFlat fs = true → RepF π w fs x cs L → RepF π' w fs x cs L
  | [], _, _, _, _, h => h
  | .pure t :: r, x, cs, L, hf, ⟨c, d, h1, h2, h3⟩ => by
    simp only [fsFlat, FT.flat, Bool.and_eq_true] at hf
    exact ⟨c, d, h1, rep_flat t _ _ hf.1 h2, repF_flat r x.2 d L hf.2 h3⟩
  | .own e t :: r, x, cs, L, hf, ⟨v, d, l, L', h1, h2, h3, h4⟩ => by
    simp only [fsFlat, FT.flat, Bool.and_eq_true] at hf
    refine ⟨v, d, l, L', h1, h2, ?_, repF_flat r x.2 d L' hf.2 h4⟩
    rcases h3 with h3 | ⟨g, o, vs, c, a1, a2, a3, a4, a5, a6, a7⟩
    · exact .inl h3
    · exact .inr ⟨g, o, vs, c, a1, a2, a3, a4, a5, a6, fun i x hi => rep_flat t x _ hf.1 (a7 i x hi)⟩
theorem repN_flat {π π' : Pers} {w : World} {bx : Option TypeId} {fs : List FT} {x : FsT fs} {cs : List Value} {L : List Nat} (hf : fsFlat fs = true) (h : RepN π w bx fs x cs L) : RepN π' w bx fs x cs L := by
  cases bx with
  | none => exact repF_flat fs x cs L hf h
  | some T =>
    obtain ⟨g, vs, L', h1, h2, h3, h4⟩ := h
    exact ⟨g, vs, L', h1, h2, h3, repF_flat fs x _ L' hf h4⟩
theorem hb_flat {π π' : Pers} {ρ : Env} {w : World} {k : Nat} {it : HB} (hf : flatH it = true) (h : HBIs π ρ w k it) : HBIs π' ρ w k it := by
  cases it with
  | cells t cs => obtain ⟨g, vs, h1, h2, h3⟩ := h; exact ⟨g, vs, h1, h2, all2_flat hf h3⟩
  | row e t xs =>
    rcases h with h | ⟨g, o, vs, h1, h2, h3, h4, h5⟩
    · exact .inl h
    · exact .inr ⟨g, o, vs, h1, h2, h3, h4, fun i x hi => rep_flat t x _ hf (h5 i x hi)⟩
  | map ka kt va vt es =>
    simp only [flatH, Bool.and_eq_true] at hf
    obtain ⟨g, ms, clock, h1, h2, h3⟩ := h
    exact ⟨g, ms, clock, h1, h2, all2_imp (fun a b h => ⟨ent_flat hf.1 h.1, ent_flat hf.2 h.2⟩) h3⟩
  | nest e bx fs xs hole =>
    rcases h with h | ⟨g, o, vs, Ls, h1, h2, h3, h4, h5, h6, h7⟩
    · exact .inl h
    · refine .inr ⟨g, o, vs, Ls, h1, h2, h3, h4, h5, h6, fun i x L hi hL => ?_⟩
      cases hole with
      | none => exact repN_flat hf (h7 i x L hi hL)
      | some q =>
        obtain ⟨j, hs⟩ := q
        simp only [flatH, Bool.and_eq_true] at hf
        rcases h7 i x L hi hL with ⟨a1, a2, a3⟩ | ⟨a1, a2⟩
        · exact .inl ⟨a1, a2, all2_flat hf.2 a3⟩
        · exact .inr ⟨a1, repN_flat hf.1 a2⟩
  | gone => trivial
theorem flatHs_get : ∀ {h : List HB} {k : Nat} {it : HB}, flatHs h = true → h[k]? = some it → flatH it = true
  | [], k, it, _, hk => by simp at hk
  | x :: r, 0, it, hf, hk => by simp at hk; subst hk; simp only [flatHs, Bool.and_eq_true] at hf; exact hf.1
  | x :: r, k + 1, it, hf, hk => by simp only [flatHs, Bool.and_eq_true] at hf; rw [List.getElem?_cons_succ] at hk; exact flatHs_get hf.2 hk
theorem hb_ren {π : Pers} {ρ ρ' : Env} {w w' : World} {f : Nat → Option Nat} {j k : Nat} (hr : Ren f ρ ρ') (hk : ρ' k = ρ j) (hw : ∀ g, own (ρ j) g → w'.heap[g]? = w.heap[g]?) {it : HB} (h : HBIs π ρ w j it) : HBIs π ρ' w' k (renH f it) := by
  cases it with
  | cells t cs =>
    obtain ⟨g, vs, h1, h2, h3⟩ := h
    exact ⟨g, vs, by rw [hk]; simpa using h1, by rw [hw g (own_main h1)]; exact h2, all2_map (den_ren hr) h3⟩
  | row e t xs =>
    rcases h with h | ⟨g, o, vs, h1, h2, h3⟩
    · exact .inl (by rw [hk]; exact h)
    · exact .inr ⟨g, o, vs, by rw [hk]; exact h1, by rw [hw g (own_main h1)]; exact h2, h3⟩
  | map ka kt va vt es =>
    obtain ⟨g, ms, clock, h1, h2, h3⟩ := h
    exact ⟨g, ms, clock, by rw [hk]; exact h1, by rw [hw g (own_main h1)]; exact h2, h3⟩
  | nest e bx fs xs hole =>
    rcases h with ⟨h1, h2, h3⟩ | ⟨g, o, vs, Ls, h1, h2, h3, h4, h5, h6, h7⟩
    · subst h3; exact .inl ⟨by rw [hk]; exact h1, h2, rfl⟩
    · have hL' : ∀ {i : Nat} {L : List Nat}, Ls[i]? = some L → ∀ g, g ∈ L → w'.heap[g]? = w.heap[g]? := fun hL g hg => hw g (by rw [h1]; exact .inr (mem_flat hL hg))
      cases hole with
      | none => exact .inr ⟨g, o, vs, Ls, by rw [hk]; exact h1, by rw [hw g (own_main h1)]; exact h2, h3, h4, h5, h6, fun i x L hi hL => nestAt_keep (fun _ _ h => h) (hL' hL) (fun j hs hh => by cases hh) (fun _ => rfl) (h7 i x L hi hL)⟩
      | some q =>
        obtain ⟨i0, hs⟩ := q
        exact .inr ⟨g, o, vs, Ls, by rw [hk]; exact h1, by rw [hw g (own_main h1)]; exact h2, h3, h4, h5, h6, fun i x L hi hL => nestAt_keep (fun _ _ h => h) (hL' hL) (fun j' hs' hh => by cases hh; exact ⟨_, rfl, all2_map (den_ren hr)⟩) (fun h => by cases h) (h7 i x L hi hL)⟩
  | gone => trivial
theorem dens_ren {π : Pers} {ρ ρ' : Env} {f : Nat → Option Nat} (hr : Ren f ρ ρ') {r : SV} {v : Value} (h : DenS π ρ r v) : DenS π ρ' (renS f r) v := by
  cases r with
  | p x => exact denp_ren hr x v h
  | tup l => obtain ⟨vs, h1, h2⟩ := h; exact ⟨vs, h1, all2_map (denp_ren hr) h2⟩
  | gd j b x => exact h.elim

/-! ### behind a call -/
def backN (n0 : Nat) (m : List Nat) (j : Nat) : Option Nat := match nth m j with | some b => some b | none => some (n0 + (j - m.length))
def aftN (h : List HB) (m : List Nat) (b : Nat) : Option Nat := bif memN m b then (match nth h b with | some (.cells _ _) => some b | some (.map _ _ _ _ _) => some b | some (.row _ (.fix _) _) => some b | _ => none) else some b
def mrgE (n0 : Nat) (m : List Nat) (nl : Nat) (ρ ρ' : Env) : Env := fun k =>
  if k < n0 then (match posOf m k with | some j => ρ' j | none => ρ k) else if k < n0 + (nl - m.length) then ρ' (m.length + (k - n0)) else none
/-- The old blocks as they are behind the call: from place i on. -/
def mrgO (h h' : List HB) (m : List Nat) : Nat → List HB → List HB
  | _, [] => []
  | i, it :: r => (match posOf m i with | some j => renH (backN h.length m) ((nth h' j).getD .gone) | none => renH (aftN h m) it) :: mrgO h h' m (i + 1) r
def mrgH (h h' : List HB) (m : List Nat) : List HB := mrgO h h' m 0 h ++ (h'.drop m.length).map (renH (backN h.length m))
theorem mrgO_len {h h' : List HB} {m : List Nat} : ∀ (r : List HB) (i : Nat), (mrgO h h' m i r).length = r.length
  | [], _ => rfl
  | _ :: r, i => by simp only [mrgO, List.length_cons, mrgO_len r]
theorem mrgO_get {h h' : List HB} {m : List Nat} : ∀ {r : List HB} {i k : Nat} {it : HB}, (mrgO h h' m i r)[k]? = some it → ∃ x, r[k]? = some x ∧ it = (match posOf m (i + k) with | some j => renH (backN h.length m) ((nth h' j).getD .gone) | none => renH (aftN h m) x)
  | [], i, k, it, hk => by simp [mrgO] at hk
  | x :: r, i, k, it, hk => by
    cases k with
    | zero => simp only [mrgO, List.getElem?_cons_zero, Option.some.injEq] at hk; exact ⟨x, rfl, hk.symm⟩
    | succ k =>
      simp only [mrgO, List.getElem?_cons_succ] at hk ⊢
      obtain ⟨y, h1, h2⟩ := mrgO_get hk
      exact ⟨y, h1, by rw [h2, show i + 1 + k = i + (k + 1) by omega]⟩
theorem posOf_of {m : List Nat} (hn : nodupN m = true) {j b : Nat} (h : m[j]? = some b) : posOf m b = some j := by
  cases hp : posOf m b with
  | none => exact absurd (List.mem_of_getElem? h) (posOf_none hp)
  | some k => rw [nodupN_ok hn k j b (posOf_get hp) h]
section
variable {π π' π2 : Pers} {ρ ρ' : Env} {h h' : List HB} {w w' : World} {m : List Nat}
theorem mrg_loc (hn : nodupN m = true) (hl : allLt h.length m = true) {j b : Nat} (hj : m[j]? = some b) : mrgE h.length m h'.length ρ ρ' b = ρ' j := by
  simp [mrgE, allLt_ok hl j b hj, posOf_of hn hj]
theorem mrg_out {b : Nat} (hb : b < h.length) (hm : posOf m b = none) : mrgE h.length m h'.length ρ ρ' b = ρ b := by
  simp [mrgE, hb, hm]
theorem mrg_new {t : Nat} (ht : m.length + t < h'.length) : mrgE h.length m h'.length ρ ρ' (h.length + t) = ρ' (m.length + t) := by
  have h1 : ¬ (h.length + t < h.length) := by omega
  have h2 : h.length + t < h.length + (h'.length - m.length) := by omega
  simp only [mrgE, if_neg h1, if_pos h2]
  congr 1; omega
theorem ren_back (hn : nodupN m = true) (hl : allLt h.length m = true) (H' : HSat π' ρ' h' w') : Ren (backN h.length m) ρ' (mrgE h.length m h'.length ρ ρ') := by
  intro j k x hk hx
  have hjl : j < h'.length := by
    rcases Nat.lt_or_ge j h'.length with h | h
    · exact h
    · rw [H'.out j h] at hx; cases hx
  unfold backN at hk
  split at hk
  · rename_i b hb
    rw [nth_eq] at hb
    simp only [Option.some.injEq] at hk
    subst hk
    rw [mrg_loc hn hl hb]; exact hx
  · rename_i hb
    rw [nth_eq] at hb
    simp only [Option.some.injEq] at hk
    subst hk
    have hj : m.length ≤ j := List.getElem?_eq_none_iff.1 hb
    rw [mrg_new (by omega), show m.length + (j - m.length) = j by omega]; exact hx
theorem ren_aft (H : HSat π ρ h w) (hn : nodupN m = true) (St : Step m.length (envOf ρ m) (subH h m m) w π2 ρ' h' w' π') : Ren (aftN h m) ρ (mrgE h.length m h'.length ρ ρ') := by
  intro b k x hk hx
  have hb : b < h.length := by
    rcases Nat.lt_or_ge b h.length with h | h
    · exact h
    · rw [H.out b h] at hx; cases hx
  unfold aftN at hk
  cases hm : memN m b with
  | false =>
    rw [hm] at hk
    simp only [cond_false, Option.some.injEq] at hk
    subst hk
    have hp : posOf m b = none := by
      cases hp : posOf m b with
      | none => rfl
      | some j => have := memN_iff.2 (List.mem_of_getElem? (posOf_get hp)); rw [hm] at this; cases this
    rw [mrg_out hb hp]; exact hx
  | true =>
    rw [hm] at hk
    simp only [cond_true] at hk
    have key : ∀ it κ, nth h b = some it → knd it = some κ → mrgE h.length m h'.length ρ ρ' b = some x := by
      intro it κ hit hκ
      rw [nth_eq] at hit
      obtain ⟨j, hj⟩ := List.mem_iff_getElem?.1 (memN_iff.1 hm)
      have hlen := subH_len (h := h) (m := m) m
      have hjl := (List.getElem?_eq_some_iff.1 hj).1
      have hsub : (subH h m m)[j]? = some (renH (posOf m) it) := by
        have hlt : j < (subH h m m).length := by rw [hlen]; exact hjl
        have hget := List.getElem?_eq_getElem hlt
        obtain ⟨b', hb', he⟩ := subH_get hget
        rw [hj] at hb'
        cases hb'
        rw [hget, he, hit]
        rfl
      obtain ⟨e1, _⟩ := St.keep j _ κ hjl hsub (by rw [knd_ren]; exact hκ)
      have hp := posOf_of hn hj
      simp only [mrgE, if_pos hb, hp, e1, envOf, hj]
      exact hx
    split at hk
    · rename_i hit
      cases hk
      exact key _ _ hit rfl
    · rename_i hit
      cases hk
      exact key _ _ hit rfl
    · rename_i hit
      cases hk
      exact key _ _ hit rfl
    · cases hk
/-- The blocks behind a call. πn: what lasts now. -/
theorem hsat_mrg {πn : Pers} (H : HSat π ρ h w) (hn : nodupN m = true) (hl : allLt h.length m = true) (St : Step m.length (envOf ρ m) (subH h m m) w π2 ρ' h' w' π') (H' : HSat πn ρ' h' w') (hml : m.length ≤ h'.length)
    (hp : ∀ g vs, π g = some vs → πn g = some vs) (hpf : ∀ g vs, πn g = some vs → π g = some vs ∨ (∃ j, j < m.length ∧ own (envOf ρ m j) g) ∨ w.heap.size ≤ g) :
    HSat πn (mrgE h.length m h'.length ρ ρ') (mrgH h h' m) w' := by
  have hlen := subH_len (h := h) (m := m) m
  have hR1 := ren_back (ρ := ρ) hn hl H'
  have hR2 := ren_aft H hn St
  have hmo := mrgO_len (h := h) (h' := h') (m := m) h 0
  have hlocal : ∀ j g, own (envOf ρ m j) g → ∃ b, m[j]? = some b ∧ own (ρ b) g := fun j g h => own_env h
  -- an outer block is none of the local ones
  have hsep : ∀ k g, k < h.length → posOf m k = none → own (ρ k) g → (∀ j, ¬ own (envOf ρ m j) g) ∧ w'.heap[g]? = w.heap[g]? := by
    intro k g hk hpk hr
    have h1 : ∀ j, ¬ own (envOf ρ m j) g := by
      intro j hj
      obtain ⟨b, hb, hrb⟩ := hlocal j g hj
      have := H.inj k b g hk (allLt_ok hl j b hb) hr hrb
      subst this
      exact posOf_none hpk (List.mem_of_getElem? hb)
    exact ⟨h1, St.block g (H.lt k hk g hr) (fun j _ => h1 j)⟩
  have hnew : ∀ k, k < (mrgH h h' m).length → (∃ b, k = b ∧ b < h.length ∧ posOf m b = none) ∨ (∃ j, j < h'.length ∧ mrgE h.length m h'.length ρ ρ' k = ρ' j ∧ (mrgH h h' m)[k]? = some (renH (backN h.length m) (h'[j]?.getD .gone)) ∧ (posOf m k = some j ∧ k < h.length ∨ k = h.length + (j - m.length) ∧ m.length ≤ j)) := by
    intro k hk
    unfold mrgH at hk
    rw [List.length_append, hmo, List.length_map, List.length_drop] at hk
    by_cases hkl : k < h.length
    · cases hpk : posOf m k with
      | none => exact .inl ⟨k, rfl, hkl, hpk⟩
      | some j =>
        right
        have hj := posOf_get hpk
        have hjl := (List.getElem?_eq_some_iff.1 hj).1
        refine ⟨j, by omega, mrg_loc hn hl hj, ?_, .inl ⟨rfl, hkl⟩⟩
        unfold mrgH
        rw [List.getElem?_append_left (by rw [hmo]; exact hkl)]
        have hlt : k < (mrgO h h' m 0 h).length := by rw [hmo]; exact hkl
        obtain ⟨x, _, he⟩ := mrgO_get (List.getElem?_eq_getElem hlt)
        rw [List.getElem?_eq_getElem hlt, he, Nat.zero_add, hpk]
        simp only [nth_eq]
    · right
      refine ⟨m.length + (k - h.length), by omega, ?_, ?_, .inr ⟨by omega, by omega⟩⟩
      · have := mrg_new (ρ := ρ) (ρ' := ρ') (h := h) (h' := h') (m := m) (t := k - h.length) (by omega)
        rw [show h.length + (k - h.length) = k by omega] at this
        exact this
      · unfold mrgH
        rw [List.getElem?_append_right (by rw [hmo]; omega), hmo, List.getElem?_map, List.getElem?_drop]
        have hlt : m.length + (k - h.length) < h'.length := by omega
        rw [List.getElem?_eq_getElem hlt]
        rfl
  have hout : ∀ k it, k < h.length → posOf m k = none → (mrgH h h' m)[k]? = some it → ∃ x, h[k]? = some x ∧ it = renH (aftN h m) x := by
    intro k it hk hpk hit
    unfold mrgH at hit
    rw [List.getElem?_append_left (by rw [hmo]; exact hk)] at hit
    obtain ⟨x, hx, he⟩ := mrgO_get hit
    rw [Nat.zero_add, hpk] at he
    exact ⟨x, hx, he⟩
  refine ⟨?_, ?_, ?_, ?_, H'.pers, ?_⟩
  · intro k it hk
    rcases hnew k (List.getElem?_eq_some_iff.1 hk).1 with ⟨b, rfl, hb, hpb⟩ | ⟨j, hj, he, hg, _⟩
    · obtain ⟨x, hx, rfl⟩ := hout k it hb hpb hk
      have hit := hb_keep (π' := πn) (ρ' := ρ) (w' := w') hp (fun _ _ h => h) rfl (fun g hr => (hsep k g hb hpb hr).2) x (H.items k x hx)
      exact hb_ren hR2 (mrg_out hb hpb) (fun _ _ => rfl) hit
    · rw [hg] at hk
      cases hk
      rw [List.getElem?_eq_getElem hj]
      exact hb_ren hR1 he (fun _ _ => rfl) (H'.items j _ (List.getElem?_eq_getElem hj))
  · intro k hk g hr
    rcases hnew k hk with ⟨b, rfl, hb, hpb⟩ | ⟨j, hj, he, _, _⟩
    · rw [mrg_out hb hpb] at hr; exact Nat.lt_of_lt_of_le (H.lt k hb g hr) St.size
    · rw [he] at hr; exact H'.lt j hj g hr
  · have hmix : ∀ k k' g j, k < h.length → posOf m k = none → own (ρ k) g → j < h'.length → mrgE h.length m h'.length ρ ρ' k' = ρ' j → own (ρ' j) g → False := by
      intro k k' g j hk hpk hr hj he hr'
      rcases St.fresh j g hj hr' with ⟨i, _, hi⟩ | hge
      · exact (hsep k g hk hpk hr).1 i hi
      · exact absurd (H.lt k hk g hr) (by omega)
    intro k k' g hk hk' h1 h2
    rcases hnew k hk with ⟨b, rfl, hb, hpb⟩ | ⟨j, hj, he, _, hkj⟩ <;> rcases hnew k' hk' with ⟨b', rfl, hb', hpb'⟩ | ⟨j', hj', he', _, hkj'⟩
    · rw [mrg_out hb hpb] at h1; rw [mrg_out hb' hpb'] at h2; exact H.inj k k' g hb hb' h1 h2
    · rw [mrg_out hb hpb] at h1; rw [he'] at h2; exact (hmix k k' g j' hb hpb h1 hj' he' h2).elim
    · rw [mrg_out hb' hpb'] at h2; rw [he] at h1; exact (hmix k' k g j hb' hpb' h2 hj he h1).elim
    · rw [he] at h1; rw [he'] at h2
      have := H'.inj j j' g hj hj' h1 h2
      subst this
      rcases hkj with ⟨a1, a2⟩ | ⟨a1, a2⟩ <;> rcases hkj' with ⟨b1, b2⟩ | ⟨b1, b2⟩
      · have c1 := posOf_get a1; have c2 := posOf_get b1; rw [c1] at c2; cases c2; rfl
      · have c1 := (List.getElem?_eq_some_iff.1 (posOf_get a1)).1; omega
      · have c1 := (List.getElem?_eq_some_iff.1 (posOf_get b1)).1; omega
      · omega
  · intro k g hk hr
    rcases hnew k hk with ⟨b, rfl, hb, hpb⟩ | ⟨j, hj, he, _, _⟩
    · rw [mrg_out hb hpb] at hr
      cases hg : πn g with
      | none => rfl
      | some vs =>
        rcases hpf g vs hg with h0 | ⟨j, _, hj⟩ | hge
        · rw [H.apart k g hb hr] at h0; cases h0
        · exact ((hsep k g hb hpb hr).1 j hj).elim
        · exact absurd (H.lt k hb g hr) (by omega)
    · rw [he] at hr; exact H'.apart j g hj hr
  · intro k hk
    unfold mrgH at hk
    rw [List.length_append, hmo, List.length_map, List.length_drop] at hk
    have h1 : ¬ (k < h.length) := by omega
    have h2 : ¬ (k < h.length + (h'.length - m.length)) := by omega
    simp only [mrgE, if_neg h1, if_neg h2]
theorem step_mrg {N : Nat} {πn : Pers} (H : HSat π ρ h w) (hn : nodupN m = true) (hl : allLt h.length m = true) (St : Step m.length (envOf ρ m) (subH h m m) w π2 ρ' h' w' π') (hml : m.length ≤ h'.length) (H' : HSat πn ρ' h' w')
    (hp : ∀ g vs, π g = some vs → πn g = some vs) (hpf : ∀ g vs, πn g = some vs → π g = some vs ∨ (∃ j, j < m.length ∧ own (envOf ρ m j) g) ∨ w.heap.size ≤ g) :
    Step N ρ h w π (mrgE h.length m h'.length ρ ρ') (mrgH h h' m) w' πn := by
  have hlen := subH_len (h := h) (m := m) m
  have hmo := mrgO_len (h := h) (h' := h') (m := m) h 0
  have hlocal : ∀ j g, own (envOf ρ m j) g → ∃ b, b < h.length ∧ own (ρ b) g := by
    intro j g hj
    obtain ⟨b, hb, h1⟩ := own_env hj
    exact ⟨b, allLt_ok hl j b hb, h1⟩
  refine ⟨St.os, St.tape, St.output, St.size, ?_, ?_, hp, ?_, ?_⟩
  · intro g hg hnn
    refine St.block g hg (fun j _ hj => ?_)
    obtain ⟨b, hb, hr⟩ := hlocal j g hj
    exact hnn b hb hr
  · intro k g hk hr
    unfold mrgE at hr
    split at hr
    · rename_i hkl
      split at hr
      · rename_i j hj
        have hjl := (List.getElem?_eq_some_iff.1 (posOf_get hj)).1
        rcases St.fresh j g (by omega) hr with ⟨i, _, hi⟩ | hge
        · obtain ⟨b, hb, hrb⟩ := hlocal i g hi; exact .inl ⟨b, hb, hrb⟩
        · exact .inr hge
      · exact .inl ⟨k, hkl, hr⟩
    · split at hr
      · rcases St.fresh _ g (by omega) hr with ⟨i, _, hi⟩ | hge
        · obtain ⟨b, hb, hrb⟩ := hlocal i g hi; exact .inl ⟨b, hb, hrb⟩
        · exact .inr hge
      · exact hr.elim
  · intro g vs hg
    rcases hpf g vs hg with h0 | ⟨j, _, hj⟩ | hge
    · exact .inl h0
    · obtain ⟨b, hb, hr⟩ := hlocal j g hj; exact .inr (.inl ⟨b, hb, hr⟩)
    · exact .inr (.inr hge)
  · intro k it κ _ hit hκ
    have hkl := (List.getElem?_eq_some_iff.1 hit).1
    have hlt : k < (mrgO h h' m 0 h).length := by rw [hmo]; exact hkl
    have hget := List.getElem?_eq_getElem hlt
    obtain ⟨x, hx, he⟩ := mrgO_get hget
    have hfull : (mrgH h h' m)[k]? = some (mrgO h h' m 0 h)[k] := by unfold mrgH; rw [List.getElem?_append_left hlt, hget]
    rw [hit] at hx
    cases hx
    rw [Nat.zero_add] at he
    cases hpk : posOf m k with
    | none =>
      rw [hpk] at he
      exact ⟨mrg_out hkl hpk, _, by rw [hfull, he], by rw [knd_ren]; exact hκ⟩
    | some j =>
      rw [hpk] at he
      have hj := posOf_get hpk
      have hjl := (List.getElem?_eq_some_iff.1 hj).1
      have hsub : (subH h m m)[j]? = some (renH (posOf m) it) := by
        have hlt : j < (subH h m m).length := by rw [hlen]; exact hjl
        have hg := List.getElem?_eq_getElem hlt
        obtain ⟨b', hb', he'⟩ := subH_get hg
        rw [hj] at hb'
        cases hb'
        rw [hg, he', hit]
        rfl
      obtain ⟨e1, it', e2, k2⟩ := St.keep j _ κ hjl hsub (by rw [knd_ren]; exact hκ)
      refine ⟨?_, renH (backN h.length m) it', ?_, by rw [knd_ren]; exact k2⟩
      · rw [mrg_loc hn hl hj, e1]; simp [envOf, hj]
      · rw [hfull, he]; simp only [nth_eq, e2]; rfl
end
end Go.Proofs.Ytkpepieepdmjpaa.Sx
