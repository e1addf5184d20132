/- A machine of abstract states over the model, part B: how what a state says goes on through a step. No condition. -/
import Derived.Test.YtkpepieepdmjpaaSxA
namespace Go.Proofs.Ytkpepieepdmjpaa.Sx
open Go
set_option linter.unusedVariables false
set_option linter.unusedSimpArgs false

theorem den_up {π π' : Pers} {ρ ρ' : Env} (hp : ∀ g vs, π g = some vs → π' g = some vs) (hr : ∀ b x, ρ b = some x → ρ' b = some x) : ∀ (c : CV) (v : Value), DenC π ρ c v → DenC π' ρ' c v
  | .int _ _, _, h => h
  | .bool _, _, h => h
  | .str _, _, h => h
  | .nilp, _, h => h
  | .ptr b off, v, ⟨g, o, n, h1, h2⟩ => ⟨g, o, n, hr _ _ h1, h2⟩
  | .rptr t b i j, v, ⟨g, o, n, h1, h2⟩ => ⟨g, o, n, hr _ _ h1, h2⟩
  | .eptr t xs i j, v, ⟨g, o, vs, h1, h2, h3⟩ => ⟨g, o, vs, hp _ _ h1, fun i x hi => rep_mono hp t x _ (h2 i x hi), h3⟩
  | .nils, _, h => h
  | .row t xs, v, h => rowIs_imp hp (rep_mono hp t) h
  | .view t b a n, v, .inl h => .inl h
  | .view t b a n, v, .inr ⟨g, o, m, c, h1, h2⟩ => .inr ⟨g, o, m, c, hr _ _ h1, h2⟩
  | .func _, _, h => h
  | .nili, _, h => h
  | .mp b, v, ⟨g, o, n, h1, h2⟩ => ⟨g, o, n, hr _ _ h1, h2⟩
  | .nilm, _, h => h
  | .nilf, _, h => h
  | .junk, _, _ => trivial
theorem denp_up {π π' : Pers} {ρ ρ' : Env} (hp : ∀ g vs, π g = some vs → π' g = some vs) (hr : ∀ b x, ρ b = some x → ρ' b = some x) : ∀ (c : PV) (v : Value), DenP π ρ c v → DenP π' ρ' c v
  | .c x, v, h => den_up hp hr x v h
  | .agg l, v, ⟨vs, h1, h2⟩ => ⟨vs, h1, all2_imp (den_up hp hr) h2⟩
  | .clo f l, v, ⟨vs, h1, h2⟩ => ⟨vs, h1, all2_imp (den_up hp hr) h2⟩
theorem slot_up {π π' : Pers} {ρ ρ' : Env} (hp : ∀ g vs, π g = some vs → π' g = some vs) (hr : ∀ b x, ρ b = some x → ρ' b = some x) {T : Array Value} {i : Nat} : ∀ (s : SV), SlotIs π ρ T i s → SlotIs π' ρ' T i s
  | .p x, ⟨v, h1, h2⟩ => ⟨v, h1, denp_up hp hr x v h2⟩
  | .gd j b x, ⟨v, h1, .inl ⟨h2, h3⟩⟩ => ⟨v, h1, .inl ⟨h2, denp_up hp hr x v h3⟩⟩
  | .gd j b x, ⟨v, h1, .inr h2⟩ => ⟨v, h1, .inr h2⟩
  | .tup l, ⟨v, h1, vs, h2, h3⟩ => ⟨v, h1, vs, h2, all2_imp (denp_up hp hr) h3⟩

/-! ### what no longer holds of a block that went elsewhere -/
def jkC (b : Nat) : CV → CV
  | .ptr b' o => bif Nat.beq b' b then .junk else .ptr b' o
  | .rptr t b' i j => bif Nat.beq b' b then .junk else .rptr t b' i j
  | .view t b' a n => bif Nat.beq b' b then .junk else .view t b' a n
  | .mp b' => bif Nat.beq b' b then .junk else .mp b'
  | c => c
def jkP (b : Nat) : PV → PV
  | .c x => .c (jkC b x)
  | .agg l => .agg (l.map (jkC b))
  | .clo f l => .clo f (l.map (jkC b))
def jkS (b : Nat) : SV → SV
  | .p x => .p (jkP b x)
  | .gd j w x => .gd j w (jkP b x)
  | .tup l => .tup (l.map (jkP b))
def jkH (b : Nat) : HB → HB
  | .cells t cs => .cells t (cs.map (jkC b))
  | .nest e bx fs xs (some (i, cs)) => .nest e bx fs xs (some (i, cs.map (jkC b)))
  | it => it
def jkF (b : Nat) : List (Nat × SV) → List (Nat × SV)
  | [] => []
  | (i, v) :: r => (i, jkS b v) :: jkF b r
theorem den_jk {π : Pers} {ρ ρ' : Env} {b : Nat} (hr : ∀ k, k ≠ b → ρ' k = ρ k) (c : CV) (v : Value) (h : DenC π ρ c v) : DenC π ρ' (jkC b c) v := by
  cases c with
  | ptr b' o =>
    simp only [jkC]
    cases hb : Nat.beq b' b
    · obtain ⟨g, p, n, h1, h2⟩ := h
      exact ⟨g, p, n, by rw [hr _ (beq_ne hb)]; exact h1, h2⟩
    · trivial
  | rptr t b' i j =>
    simp only [jkC]
    cases hb : Nat.beq b' b
    · obtain ⟨g, p, n, h1, h2⟩ := h
      exact ⟨g, p, n, by rw [hr _ (beq_ne hb)]; exact h1, h2⟩
    · trivial
  | mp b' =>
    simp only [jkC]
    cases hb : Nat.beq b' b
    · obtain ⟨g, p, n, h1, h2⟩ := h
      exact ⟨g, p, n, by rw [hr _ (beq_ne hb)]; exact h1, h2⟩
    · trivial
  | view t b' a n =>
    simp only [jkC]
    cases hb : Nat.beq b' b
    · rcases h with h | ⟨g, o, m, c, h1, h2⟩
      · exact .inl h
      · exact .inr ⟨g, o, m, c, by rw [hr _ (beq_ne hb)]; exact h1, h2⟩
    · trivial
  | _ => exact h
theorem all2_map {α β γ : Type} {R : α → β → Prop} {R' : γ → β → Prop} {f : α → γ} (h : ∀ a b, R a b → R' (f a) b) : ∀ {l : List α} {m : List β}, All2 R l m → All2 R' (l.map f) m
  | [], [], _ => trivial
  | _ :: _, _ :: _, hh => ⟨h _ _ hh.1, all2_map h hh.2⟩
  | [], _ :: _, hh => hh.elim
  | _ :: _, [], hh => hh.elim
theorem denp_jk {π : Pers} {ρ ρ' : Env} {b : Nat} (hr : ∀ k, k ≠ b → ρ' k = ρ k) (c : PV) (v : Value) (h : DenP π ρ c v) : DenP π ρ' (jkP b c) v := by
  cases c with
  | c x => exact den_jk hr x v h
  | agg l => obtain ⟨vs, h1, h2⟩ := h; exact ⟨vs, h1, all2_map (den_jk hr) h2⟩
  | clo f l => obtain ⟨vs, h1, h2⟩ := h; exact ⟨vs, h1, all2_map (den_jk hr) h2⟩
theorem slot_jk {π : Pers} {ρ ρ' : Env} {b : Nat} (hr : ∀ k, k ≠ b → ρ' k = ρ k) {T : Array Value} {i : Nat} (s : SV) (h : SlotIs π ρ T i s) : SlotIs π ρ' T i (jkS b s) := by
  cases s with
  | p x => obtain ⟨v, h1, h2⟩ := h; exact ⟨v, h1, denp_jk hr x v h2⟩
  | gd j w x =>
    obtain ⟨v, h1, h2⟩ := h
    rcases h2 with ⟨h2, h3⟩ | h2
    · exact ⟨v, h1, .inl ⟨h2, denp_jk hr x v h3⟩⟩
    · exact ⟨v, h1, .inr h2⟩
  | tup l => obtain ⟨v, h1, vs, h2, h3⟩ := h; exact ⟨v, h1, vs, h2, all2_map (denp_jk hr) h3⟩
theorem lk_jk {b : Nat} : ∀ {fr : List (Nat × SV)} {i : Nat} {v : SV}, lk (jkF b fr) i = some v → ∃ u, lk fr i = some u ∧ v = jkS b u
  | [], i, v, h => by simp [jkF, lk] at h
  | (j, u) :: r, i, v, h => by
    simp only [jkF, lk] at h ⊢
    cases hj : Nat.beq j i
    · rw [hj] at h; exact lk_jk h
    · rw [hj] at h; simp only [cond_true, Option.some.injEq] at h; exact ⟨u, rfl, h.symm⟩

def updE (ρ : Env) (b : Nat) (r : Option (Nat × Nat × Nat × List Nat)) : Env := fun k => bif Nat.beq k b then r else ρ k
theorem updE_same (ρ : Env) (b : Nat) (r : Option (Nat × Nat × Nat × List Nat)) : updE ρ b r b = r := by simp [updE]
theorem updE_other (ρ : Env) {b k : Nat} (r : Option (Nat × Nat × Nat × List Nat)) (h : k ≠ b) : updE ρ b r k = ρ k := by
  have : Nat.beq k b = false := by cases hh : Nat.beq k b with | false => rfl | true => exact absurd (Nat.eq_of_beq_eq_true hh) h
  simp [updE, this]
/-! ### what an element of its own says goes on, where its blocks stay -/
theorem owns_keep {π π' : Pers} {w w' : World} {e : TypeId} {t : Ty} {ys : List t.T} {v : Value} {l : List Nat} (hp : ∀ g vs, π g = some vs → π' g = some vs) (hw : ∀ g, g ∈ l → w'.heap[g]? = w.heap[g]?) (h : OwnIs π w e t ys v l) : OwnIs π' w' e t ys v l := by
  rcases h with h | ⟨g, o, vs, c, rfl, h2, h3, h4, h5, h6, h7⟩
  · exact .inl h
  · exact .inr ⟨g, o, vs, c, rfl, h2, h3, h4, by rw [hw g (by simp)]; exact h5, h6, fun i x hi => rep_mono hp t x _ (h7 i x hi)⟩
theorem repF_keep {π π' : Pers} {w w' : World} (hp : ∀ g vs, π g = some vs → π' g = some vs) : ∀ (fs : List FT) (x : FsT fs) (cs : List Value) (L : List Nat), (∀ g, g ∈ L → w'.heap[g]? = w.heap[g]?) → RepF π w fs x cs L → RepF π' w' fs x cs L
  | [], _, _, _, _, h => h
  | .pure t :: r, x, cs, L, hw, ⟨c, d, h1, h2, h3⟩ => ⟨c, d, h1, rep_mono hp t _ _ h2, repF_keep hp r x.2 d L hw h3⟩
  | .own e t :: r, x, cs, L, hw, ⟨v, d, l, L', h1, h2, h3, h4⟩ => by
    subst h2
    exact ⟨v, d, l, L', h1, rfl, owns_keep hp (fun g hg => hw g (List.mem_append_left _ hg)) h3, repF_keep hp r x.2 d L' (fun g hg => hw g (List.mem_append_right _ hg)) h4⟩
theorem repN_keep {π π' : Pers} {w w' : World} {bx : Option TypeId} {fs : List FT} {x : FsT fs} {cs : List Value} {L : List Nat} (hp : ∀ g vs, π g = some vs → π' g = some vs) (hw : ∀ g, g ∈ L → w'.heap[g]? = w.heap[g]?) (h : RepN π w bx fs x cs L) : RepN π' w' bx fs x cs L := by
  cases bx with
  | none => exact repF_keep hp fs x cs L hw h
  | some T =>
    obtain ⟨g, vs, L', h1, rfl, h3, h4⟩ := h
    exact ⟨g, vs, L', h1, rfl, by rw [hw g (by simp)]; exact h3, repF_keep hp fs x _ L' (fun k hk => hw k (by simp [hk])) h4⟩
theorem ent_keep {π π' : Pers} (hp : ∀ g vs, π g = some vs → π' g = some vs) {ag : Bool} {t : Ty} {x : t.T} {v : Value} (h : EntIs π ag t x v) : EntIs π' ag t x v := by
  obtain ⟨cs, h1, h2⟩ := h
  exact ⟨cs, rep_mono hp t x cs h1, h2⟩
theorem nestAt_keep {π π' : Pers} {ρ ρ' : Env} {w w' : World} {bx : Option TypeId} {fs : List FT} {hole hole' : Option (Nat × List CV)} {i : Nat} {x : FsT fs} {cs : List Value} {L : List Nat} (hp : ∀ g vs, π g = some vs → π' g = some vs) (hw : ∀ g, g ∈ L → w'.heap[g]? = w.heap[g]?)
    (hh : ∀ j hs, hole = some (j, hs) → ∃ hs', hole' = some (j, hs') ∧ (All2 (DenC π ρ) hs cs → All2 (DenC π' ρ') hs' cs)) (hn : hole = none → hole' = none) (h : NestAt π ρ w bx fs hole i x cs L) : NestAt π' ρ' w' bx fs hole' i x cs L := by
  cases hole with
  | none => rw [hn rfl]; exact repN_keep hp hw h
  | some q =>
    obtain ⟨j, hs⟩ := q
    obtain ⟨hs', e1, e2⟩ := hh j hs rfl
    subst e1
    rcases h with ⟨h1, h2, h3⟩ | ⟨h1, h2⟩
    · exact .inl ⟨h1, h2, e2 h3⟩
    · exact .inr ⟨h1, repN_keep hp hw h2⟩
theorem mem_flat {Ls : List (List Nat)} {i : Nat} {L : List Nat} {g : Nat} (h : Ls[i]? = some L) (hg : g ∈ L) : g ∈ Ls.flatten := List.mem_flatten.2 ⟨L, List.mem_of_getElem? h, hg⟩
theorem hb_keep {π π' : Pers} {ρ ρ' : Env} {w w' : World} {k : Nat} (hp : ∀ g vs, π g = some vs → π' g = some vs) (hr : ∀ b x, ρ b = some x → ρ' b = some x) (hk : ρ' k = ρ k) (hw : ∀ g, own (ρ k) g → w'.heap[g]? = w.heap[g]?) : ∀ (it : HB), HBIs π ρ w k it → HBIs π' ρ' w' k it
  | .cells t cs, ⟨g, vs, h1, h2, h4⟩ => ⟨g, vs, by rw [hk]; exact h1, by rw [hw g (own_main h1)]; exact h2, all2_imp (den_up hp hr) h4⟩
  | .row e t xs, .inl h => .inl (by rw [hk]; exact h)
  | .row e t xs, .inr ⟨g, o, vs, h1, h2, h3, h4, h5⟩ => .inr ⟨g, o, vs, by rw [hk]; exact h1, by rw [hw g (own_main h1)]; exact h2, h3, h4, fun i x hi => rep_mono hp t x _ (h5 i x hi)⟩
  | .map ka kt va vt es, ⟨g, ms, clock, h1, h2, h3⟩ => ⟨g, ms, clock, by rw [hk]; exact h1, by rw [hw g (own_main h1)]; exact h2, all2_imp (fun a b h => ⟨ent_keep hp h.1, ent_keep hp h.2⟩) h3⟩
  | .nest e bx fs xs hole, .inl h => .inl (by rw [hk]; exact h)
  | .nest e bx fs xs hole, .inr ⟨g, o, vs, Ls, h1, h2, h3, h4, h5, h6, h7⟩ => .inr ⟨g, o, vs, Ls, by rw [hk]; exact h1, by rw [hw g (own_main h1)]; exact h2, h3, h4, h5, h6, fun i x L hi hL =>
      nestAt_keep hp (fun g hg => hw g (by rw [h1]; exact .inr (mem_flat hL hg))) (fun j hs hh => ⟨hs, hh, all2_imp (den_up hp hr)⟩) id (h7 i x L hi hL)⟩
  | .gone, _ => trivial
theorem hb_jk {π π' : Pers} {ρ ρ' : Env} {w w' : World} {k b : Nat} (hp : ∀ g vs, π g = some vs → π' g = some vs) (hr : ∀ k, k ≠ b → ρ' k = ρ k) (hk : k ≠ b) (hw : ∀ g, own (ρ k) g → w'.heap[g]? = w.heap[g]?) (it : HB) (h : HBIs π ρ w k it) : HBIs π' ρ' w' k (jkH b it) := by
  have hcs : ∀ {l : List CV} {m : List Value}, All2 (DenC π ρ) l m → All2 (DenC π' ρ') (l.map (jkC b)) m := fun h => all2_map (fun a v h => den_up hp (fun _ _ h => h) _ _ (den_jk hr a v h)) h
  cases it with
  | cells t cs =>
    obtain ⟨g, vs, h1, h2, h4⟩ := h
    exact ⟨g, vs, by rw [hr k hk]; simpa using h1, by rw [hw g (own_main h1)]; exact h2, hcs h4⟩
  | row e t xs =>
    rcases h with h | ⟨g, o, vs, h1, h2, h3, h4, h5⟩
    · exact .inl (by rw [hr k hk]; exact h)
    · exact .inr ⟨g, o, vs, by rw [hr k hk]; exact h1, by rw [hw g (own_main h1)]; exact h2, h3, h4, fun i x hi => rep_mono hp t x _ (h5 i x hi)⟩
  | map ka kt va vt es =>
    obtain ⟨g, ms, clock, h1, h2, h3⟩ := h
    exact ⟨g, ms, clock, by rw [hr k hk]; exact h1, by rw [hw g (own_main h1)]; exact h2, all2_imp (fun a b h => ⟨ent_keep hp h.1, ent_keep hp h.2⟩) h3⟩
  | nest e bx fs xs hole =>
    rcases h with ⟨h1, h2, h3⟩ | ⟨g, o, vs, Ls, h1, h2, h3, h4, h5, h6, h7⟩
    · subst h3; exact .inl ⟨by rw [hr k hk]; exact h1, h2, rfl⟩
    · cases hole with
      | none => exact .inr ⟨g, o, vs, Ls, by rw [hr k hk]; exact h1, by rw [hw g (own_main h1)]; exact h2, h3, h4, h5, h6, fun i x L hi hL => nestAt_keep hp (fun g hg => hw g (by rw [h1]; exact .inr (mem_flat hL hg))) (fun j hs hh => by cases hh) (fun _ => rfl) (h7 i x L hi hL)⟩
      | some q =>
        obtain ⟨j, hs⟩ := q
        exact .inr ⟨g, o, vs, Ls, by rw [hr k hk]; exact h1, by rw [hw g (own_main h1)]; exact h2, h3, h4, h5, h6, fun i x L hi hL => nestAt_keep hp (fun g hg => hw g (by rw [h1]; exact .inr (mem_flat hL hg))) (fun j' hs' hh => by cases hh; exact ⟨_, rfl, hcs⟩) (fun h => by cases h) (h7 i x L hi hL)⟩
  | gone => trivial

/-- Block b stays where it is and gets other content. -/
theorem hsat_put {π : Pers} {ρ : Env} {h : List HB} {w w' : World} (H : HSat π ρ h w) (b : Nat) (it : HB) (hs : w.heap.size ≤ w'.heap.size) (hw : ∀ g, g < w.heap.size → ¬ own (ρ b) g → w'.heap[g]? = w.heap[g]?)
    (hb : b < h.length) (hi : HBIs π ρ w' b it) : HSat π ρ (h.set b it) w' := by
  refine ⟨?_, ?_, ?_, ?_, ?_, ?_⟩
  · intro k x hk
    rw [List.getElem?_set] at hk
    by_cases hkb : b = k
    · subst hkb
      rw [if_pos rfl, if_pos hb] at hk
      simp only [Option.some.injEq] at hk
      subst hk
      exact hi
    · rw [if_neg hkb] at hk
      have hkl := (List.getElem?_eq_some_iff.1 hk).1
      exact hb_keep (fun _ _ h => h) (fun _ _ h => h) rfl (fun g hr => hw g (H.lt k hkl g hr) (fun hr' => hkb (H.inj b k g hb hkl hr' hr))) x (H.items k x hk)
  · intro k hk g hr
    rw [List.length_set] at hk
    exact Nat.lt_of_lt_of_le (H.lt k hk g hr) hs
  · intro k k' g hk hk' h1 h2
    rw [List.length_set] at hk hk'
    exact H.inj k k' g hk hk' h1 h2
  · intro k g hk hr
    rw [List.length_set] at hk
    exact H.apart k g hk hr
  · refine ⟨fun g vs hg => ?_, H.pers.2⟩
    obtain ⟨e, f, he⟩ := H.pers.1 g vs hg
    refine ⟨e, f, ?_⟩
    rw [hw g (Array.getElem?_eq_some_iff.1 he).1 (fun hr => by rw [H.apart b g hb hr] at hg; cases hg)]
    exact he
  · intro k hk
    rw [List.length_set] at hk
    exact H.out k hk
/-- Block b goes elsewhere: whatever spoke of it is forgotten. -/
theorem hsat_move {π : Pers} {ρ : Env} {h : List HB} {w w' : World} (H : HSat π ρ h w) (b : Nat) (it : HB) (r : Option (Nat × Nat × Nat × List Nat)) (hs : w.heap.size ≤ w'.heap.size) (hw : ∀ g, g < w.heap.size → ¬ own (ρ b) g → w'.heap[g]? = w.heap[g]?)
    (hb : b < h.length) (hr : ∀ g, own r g → (own (ρ b) g ∨ w.heap.size ≤ g) ∧ g < w'.heap.size) (hi : HBIs π (updE ρ b r) w' b it) : HSat π (updE ρ b r) ((h.map (jkH b)).set b it) w' := by
  have hne : ∀ k, k < h.length → k ≠ b → ∀ g, own (ρ k) g → own r g → False := by
    intro k hk hkb g h1 h2
    rcases (hr g h2).1 with h3 | h3
    · exact hkb (H.inj k b g hk hb h1 h3)
    · exact absurd (H.lt k hk g h1) (by omega)
  refine ⟨?_, ?_, ?_, ?_, ?_, ?_⟩
  · intro k x hk
    rw [List.getElem?_set] at hk
    by_cases hkb : b = k
    · subst hkb
      rw [if_pos rfl, if_pos (by simpa using hb)] at hk
      simp only [Option.some.injEq] at hk
      subst hk
      exact hi
    · rw [if_neg hkb, List.getElem?_map, Option.map_eq_some_iff] at hk
      obtain ⟨y, hy, rfl⟩ := hk
      have hkl := (List.getElem?_eq_some_iff.1 hy).1
      exact hb_jk (fun _ _ h => h) (fun k hk => updE_other ρ r hk) (fun e => hkb e.symm) (fun g hr => hw g (H.lt k hkl g hr) (fun hr' => hkb (H.inj b k g hb hkl hr' hr))) y (H.items k y hy)
  · intro k hk g h1
    rw [List.length_set, List.length_map] at hk
    by_cases hkb : k = b
    · subst hkb; rw [updE_same] at h1; exact (hr g h1).2
    · rw [updE_other ρ r hkb] at h1; exact Nat.lt_of_lt_of_le (H.lt k hk g h1) hs
  · intro k k' g hk hk' h1 h2
    rw [List.length_set, List.length_map] at hk hk'
    by_cases hkb : k = b <;> by_cases hkb' : k' = b
    · rw [hkb, hkb']
    · subst hkb; rw [updE_same] at h1; rw [updE_other ρ r hkb'] at h2; exact (hne k' hk' hkb' _ h2 h1).elim
    · subst hkb'; rw [updE_same] at h2; rw [updE_other ρ r hkb] at h1; exact (hne k hk hkb _ h1 h2).elim
    · rw [updE_other ρ r hkb] at h1; rw [updE_other ρ r hkb'] at h2; exact H.inj k k' g hk hk' h1 h2
  · intro k g hk h1
    rw [List.length_set, List.length_map] at hk
    by_cases hkb : k = b
    · subst hkb
      rw [updE_same] at h1
      rcases (hr g h1).1 with h3 | h3
      · exact H.apart k g hk h3
      · cases hg : π g with
        | none => rfl
        | some vs => obtain ⟨e, f, he⟩ := H.pers.1 g vs hg; exact absurd (Array.getElem?_eq_some_iff.1 he).1 (by omega)
    · rw [updE_other ρ r hkb] at h1; exact H.apart k g hk h1
  · refine ⟨fun g vs hg => ?_, H.pers.2⟩
    obtain ⟨e, f, he⟩ := H.pers.1 g vs hg
    refine ⟨e, f, ?_⟩
    rw [hw g (Array.getElem?_eq_some_iff.1 he).1 (fun hr => by rw [H.apart b g hb hr] at hg; cases hg)]
    exact he
  · intro k hk
    rw [List.length_set, List.length_map] at hk
    rw [updE_other ρ r (by omega)]
    exact H.out k hk
/-- A block more. -/
theorem hsat_new {π : Pers} {ρ : Env} {h : List HB} {w w' : World} (H : HSat π ρ h w) (it : HB) (r : Option (Nat × Nat × Nat × List Nat)) (hs : w.heap.size ≤ w'.heap.size) (hw : ∀ g, g < w.heap.size → w'.heap[g]? = w.heap[g]?)
    (hr : ∀ g, own r g → w.heap.size ≤ g ∧ g < w'.heap.size) (hi : HBIs π (updE ρ h.length r) w' h.length it) : HSat π (updE ρ h.length r) (h ++ [it]) w' := by
  have hup : ∀ b x, ρ b = some x → updE ρ h.length r b = some x := by
    intro b x hb
    by_cases hbl : b = h.length
    · subst hbl; rw [H.out _ (Nat.le_refl _)] at hb; cases hb
    · rw [updE_other ρ r hbl]; exact hb
  refine ⟨?_, ?_, ?_, ?_, ?_, ?_⟩
  · intro k x hk
    by_cases hkl : k < h.length
    · rw [List.getElem?_append_left hkl] at hk
      exact hb_keep (fun _ _ h => h) hup (updE_other ρ r (by omega)) (fun g hr => hw g (H.lt k hkl g hr)) x (H.items k x hk)
    · have hlt := (List.getElem?_eq_some_iff.1 hk).1
      simp only [List.length_append, List.length_cons, List.length_nil] at hlt
      obtain rfl : k = h.length := by omega
      rw [List.getElem?_append_right (Nat.le_refl _)] at hk
      simp only [Nat.sub_self, List.getElem?_cons_zero, Option.some.injEq] at hk
      subst hk
      exact hi
  · intro k hk g h1
    simp only [List.length_append, List.length_cons, List.length_nil] at hk
    by_cases hkb : k = h.length
    · subst hkb; rw [updE_same] at h1; exact (hr g h1).2
    · rw [updE_other ρ r hkb] at h1; exact Nat.lt_of_lt_of_le (H.lt k (by omega) g h1) hs
  · intro k k' g hk hk' h1 h2
    simp only [List.length_append, List.length_cons, List.length_nil] at hk hk'
    by_cases hkb : k = h.length <;> by_cases hkb' : k' = h.length
    · rw [hkb, hkb']
    · subst hkb; rw [updE_same] at h1; rw [updE_other ρ r hkb'] at h2; exact absurd (H.lt k' (by omega) _ h2) (by have := (hr _ h1).1; omega)
    · subst hkb'; rw [updE_same] at h2; rw [updE_other ρ r hkb] at h1; exact absurd (H.lt k (by omega) _ h1) (by have := (hr _ h2).1; omega)
    · rw [updE_other ρ r hkb] at h1; rw [updE_other ρ r hkb'] at h2; exact H.inj k k' g (by omega) (by omega) h1 h2
  · intro k g hk h1
    simp only [List.length_append, List.length_cons, List.length_nil] at hk
    by_cases hkb : k = h.length
    · subst hkb
      rw [updE_same] at h1
      cases hg : π g with
      | none => rfl
      | some vs => obtain ⟨e, f, he⟩ := H.pers.1 g vs hg; exact absurd (Array.getElem?_eq_some_iff.1 he).1 (by have := (hr _ h1).1; omega)
    · rw [updE_other ρ r hkb] at h1; exact H.apart k g (by omega) h1
  · refine ⟨fun g vs hg => ?_, H.pers.2⟩
    obtain ⟨e, f, he⟩ := H.pers.1 g vs hg
    exact ⟨e, f, by rw [hw g (Array.getElem?_eq_some_iff.1 he).1]; exact he⟩
  · intro k hk
    simp only [List.length_append, List.length_cons, List.length_nil] at hk
    rw [updE_other ρ r (by omega)]
    exact H.out k (by omega)
theorem upE_new {π : Pers} {ρ : Env} {h : List HB} {w : World} (H : HSat π ρ h w) (r : Option (Nat × Nat × Nat × List Nat)) : ∀ b x, ρ b = some x → updE ρ h.length r b = some x := by
  intro b x hb
  by_cases hbl : b = h.length
  · subst hbl; rw [H.out _ (Nat.le_refl _)] at hb; cases hb
  · rw [updE_other ρ r hbl]; exact hb

/-! ### slots -/
theorem slot_put {π : Pers} {ρ : Env} {T : Array Value} {i d : Nat} (u : Value) (hne : i ≠ d) : ∀ (s : SV), s.hangs d = false → SlotIs π ρ T i s → SlotIs π ρ (T.setIfInBounds d u) i s
  | .p x, _, ⟨v, h1, h2⟩ => ⟨v, by rw [Array.getElem?_setIfInBounds_ne (fun e => hne e.symm)]; exact h1, h2⟩
  | .tup l, _, ⟨v, h1, h2⟩ => ⟨v, by rw [Array.getElem?_setIfInBounds_ne (fun e => hne e.symm)]; exact h1, h2⟩
  | .gd j b x, hh, ⟨v, h1, h2⟩ => by
    have hj : j ≠ d := beq_ne hh
    refine ⟨v, by rw [Array.getElem?_setIfInBounds_ne (fun e => hne e.symm)]; exact h1, ?_⟩
    rw [Array.getElem?_setIfInBounds_ne (fun e => hj e.symm)]
    exact h2
theorem rm_hangs : ∀ {fr : List (Nat × SV)} {i k : Nat} {v : SV}, lk (rm fr i) k = some v → lk fr k = some v ∨ ∃ x, lk fr k = some x ∧ x.hangs i = true := by
  intro fr
  induction fr with
  | nil => intro i k v h; simp [rm, lk] at h
  | cons p r ih =>
    intro i k v h
    obtain ⟨j, u⟩ := p
    simp only [rm] at h
    cases hb : (Nat.beq j i || u.hangs i) with
    | true =>
      rw [hb] at h
      have hk := lk_rm r i k v h
      simp only [lk]
      cases hj : Nat.beq j k with
      | true =>
        have : j = k := Nat.eq_of_beq_eq_true hj
        subst this
        have hne : Nat.beq j i = false := by cases hh : Nat.beq j i with | false => rfl | true => exact absurd (Nat.eq_of_beq_eq_true hh) hk.1
        rw [hne, Bool.false_or] at hb
        exact .inr ⟨u, rfl, hb⟩
      | false => exact ih h
    | false =>
      rw [hb] at h
      simp only [cond_false, lk] at h ⊢
      cases hj : Nat.beq j k with
      | true => rw [hj] at h; exact .inl h
      | false => rw [hj] at h; exact ih h
theorem lk_rm_once : ∀ {fr : List (Nat × SV)} {i k : Nat} {v : SV}, once fr = true → lk (rm fr i) k = some v → lk fr k = some v
  | [], i, k, v, _, h => by simp [rm, lk] at h
  | (j, u) :: r, i, k, v, ho, h => by
    simp only [once, Bool.and_eq_true] at ho
    simp only [rm] at h
    cases hb : (Nat.beq j i || u.hangs i) with
    | true =>
      rw [hb] at h
      have h' := lk_rm_once ho.2 h
      simp only [lk]
      cases hj : Nat.beq j k with
      | true =>
        have : j = k := Nat.eq_of_beq_eq_true hj
        subst this
        rw [h'] at ho
        exact absurd ho.1 (by simp)
      | false => exact h'
    | false =>
      rw [hb] at h
      simp only [cond_false, lk] at h ⊢
      cases hj : Nat.beq j k with
      | true => rw [hj] at h; exact h
      | false => rw [hj] at h; exact lk_rm_once ho.2 h
theorem once_rm : ∀ {fr : List (Nat × SV)} {i : Nat}, once fr = true → once (rm fr i) = true
  | [], _, _ => rfl
  | (j, u) :: r, i, h => by
    simp only [once, Bool.and_eq_true] at h
    simp only [rm]
    cases hb : (Nat.beq j i || u.hangs i) with
    | true => exact once_rm h.2
    | false =>
      simp only [cond_false, once, Bool.and_eq_true]
      refine ⟨?_, once_rm h.2⟩
      cases hl : lk (rm r i) j with
      | none => rfl
      | some x => rw [lk_rm_once h.2 hl] at h; exact absurd h.1 (by simp)
theorem once_up {fr : List (Nat × SV)} {i : Nat} {v : SV} (h : once fr = true) : once (up fr i v) = true := by
  simp only [up, once, Bool.and_eq_true]
  refine ⟨?_, once_rm h⟩
  cases hl : lk (rm fr i) i with
  | none => rfl
  | some x => exact absurd rfl (lk_rm fr i i x hl).1
end Go.Proofs.Ytkpepieepdmjpaa.Sx
