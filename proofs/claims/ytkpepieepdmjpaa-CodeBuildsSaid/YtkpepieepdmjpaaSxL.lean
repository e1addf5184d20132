/- A machine of abstract states over the model, part L: blocks named anew; what a call may know of; calls. No condition. -/
import Derived.Test.YtkpepieepdmjpaaSxKc
namespace Go.Proofs.Ytkpepieepdmjpaa.Sx
open Go
set_option linter.unusedVariables false
set_option linter.unusedSimpArgs false

/-- The place of b in m. -/
def posOf : List Nat → Nat → Option Nat
  | [], _ => none
  | a :: r, b => bif Nat.beq a b then some 0 else match posOf r b with | some k => some (k + 1) | none => none
theorem posOf_get : ∀ {m : List Nat} {b k : Nat}, posOf m b = some k → m[k]? = some b
  | [], b, k, h => by simp [posOf] at h
  | a :: r, b, k, h => by
    simp only [posOf] at h
    cases hb : Nat.beq a b with
    | true => rw [hb] at h; simp only [cond_true, Option.some.injEq] at h; subst h; rw [beq_eq hb]; rfl
    | false =>
      rw [hb] at h
      simp only [cond_false] at h
      split at h
      · rename_i j hj
        simp only [Option.some.injEq] at h
        subst h
        rw [List.getElem?_cons_succ]
        exact posOf_get hj
      · cases h
theorem posOf_none : ∀ {m : List Nat} {b : Nat}, posOf m b = none → b ∉ m
  | [], b, _ => by simp
  | a :: r, b, h => by
    simp only [posOf] at h
    cases hb : Nat.beq a b with
    | true => rw [hb] at h; cases h
    | false =>
      rw [hb] at h
      simp only [cond_false] at h
      split at h
      · cases h
      · rename_i hn
        intro hm
        rcases List.mem_cons.1 hm with e | hm
        · exact beq_ne hb e.symm
        · exact posOf_none hn hm
def renC (f : Nat → Option Nat) : CV → CV
  | .ptr b o => match f b with | some k => .ptr k o | none => .junk
  | .rptr t b i j => match f b with | some k => .rptr t k i j | none => .junk
  | .view t b a n => match f b with | some k => .view t k a n | none => .junk
  | .mp b => match f b with | some k => .mp k | none => .junk
  | c => c
def renP (f : Nat → Option Nat) : PV → PV
  | .c x => .c (renC f x)
  | .agg l => .agg (l.map (renC f))
  | .clo g l => .clo g (l.map (renC f))
def renS (f : Nat → Option Nat) : SV → SV
  | .p x => .p (renP f x)
  | .gd j w x => .gd j w (renP f x)
  | .tup l => .tup (l.map (renP f))
def renH (f : Nat → Option Nat) : HB → HB
  | .cells t cs => .cells t (cs.map (renC f))
  | .nest e bx fs xs (some (i, cs)) => .nest e bx fs xs (some (i, cs.map (renC f)))
  | it => it
theorem knd_ren (f : Nat → Option Nat) (it : HB) : knd (renH f it) = knd it := by
  cases it with
  | nest e bx fs xs hole => cases hole <;> rfl
  | _ => rfl
def renF (f : Nat → Option Nat) : List (Nat × SV) → List (Nat × SV)
  | [] => []
  | (i, v) :: r => (i, renS f v) :: renF f r
/-- The names of one environment in another one. -/
def Ren (f : Nat → Option Nat) (ρ ρ' : Env) : Prop := ∀ b k x, f b = some k → ρ b = some x → ρ' k = some x
theorem den_ren {π : Pers} {ρ ρ' : Env} {f : Nat → Option Nat} (hr : Ren f ρ ρ') (c : CV) (v : Value) (h : DenC π ρ c v) : DenC π ρ' (renC f c) v := by
  cases c with
  | ptr b o =>
    simp only [renC]
    cases hb : f b with
    | none => trivial
    | some k => obtain ⟨g, p, n, h1, h2⟩ := h; exact ⟨g, p, n, hr b k _ hb h1, h2⟩
  | rptr t b i j =>
    simp only [renC]
    cases hb : f b with
    | none => trivial
    | some k => obtain ⟨g, p, n, h1, h2⟩ := h; exact ⟨g, p, n, hr b k _ hb h1, h2⟩
  | mp b =>
    simp only [renC]
    cases hb : f b with
    | none => trivial
    | some k => obtain ⟨g, p, n, h1, h2⟩ := h; exact ⟨g, p, n, hr b k _ hb h1, h2⟩
  | view t b a n =>
    simp only [renC]
    cases hb : f b with
    | none => trivial
    | some k =>
      rcases h with h | ⟨g, o, m, c, h1, h2⟩
      · exact .inl h
      · exact .inr ⟨g, o, m, c, hr b k _ hb h1, h2⟩
  | _ => exact h
theorem denp_ren {π : Pers} {ρ ρ' : Env} {f : Nat → Option Nat} (hr : Ren f ρ ρ') (c : PV) (v : Value) (h : DenP π ρ c v) : DenP π ρ' (renP f c) v := by
  cases c with
  | c x => exact den_ren hr x v h
  | agg l => obtain ⟨vs, h1, h2⟩ := h; exact ⟨vs, h1, all2_map (den_ren hr) h2⟩
  | clo g l => obtain ⟨vs, h1, h2⟩ := h; exact ⟨vs, h1, all2_map (den_ren hr) h2⟩
theorem slot_ren {π : Pers} {ρ ρ' : Env} {f : Nat → Option Nat} (hr : Ren f ρ ρ') {T : Array Value} {i : Nat} (s : SV) (h : SlotIs π ρ T i s) : SlotIs π ρ' T i (renS f s) := by
  cases s with
  | p x => obtain ⟨v, h1, h2⟩ := h; exact ⟨v, h1, denp_ren hr x v h2⟩
  | gd j w x =>
    obtain ⟨v, h1, h2⟩ := h
    rcases h2 with ⟨h2, h3⟩ | h2
    · exact ⟨v, h1, .inl ⟨h2, denp_ren hr x v h3⟩⟩
    · exact ⟨v, h1, .inr h2⟩
  | tup l => obtain ⟨v, h1, vs, h2, h3⟩ := h; exact ⟨v, h1, vs, h2, all2_map (denp_ren hr) h3⟩
theorem lk_ren {f : Nat → Option Nat} : ∀ {fr : List (Nat × SV)} {i : Nat} {v : SV}, lk (renF f fr) i = some v → ∃ u, lk fr i = some u ∧ v = renS f u
  | [], i, v, h => by simp [renF, lk] at h
  | (j, u) :: r, i, v, h => by
    simp only [renF, lk] at h ⊢
    cases hj : Nat.beq j i
    · rw [hj] at h; exact lk_ren h
    · rw [hj] at h; simp only [cond_true, Option.some.injEq] at h; exact ⟨u, rfl, h.symm⟩
theorem once_ren {f : Nat → Option Nat} : ∀ {fr : List (Nat × SV)}, once fr = true → once (renF f fr) = true
  | [], _ => rfl
  | (j, u) :: r, h => by
    simp only [once, Bool.and_eq_true, renF] at h ⊢
    refine ⟨?_, once_ren h.2⟩
    cases hl : lk (renF f r) j with
    | none => rfl
    | some x => obtain ⟨y, hy, _⟩ := lk_ren hl; rw [hy] at h; exact absurd h.1 (by simp)

def memN : List Nat → Nat → Bool
  | [], _ => false
  | a :: r, b => Nat.beq a b || memN r b
theorem memN_iff : ∀ {m : List Nat} {b : Nat}, memN m b = true ↔ b ∈ m
  | [], b => by simp [memN]
  | a :: r, b => by
    simp only [memN, Bool.or_eq_true, List.mem_cons, memN_iff (m := r)]
    constructor
    · rintro (h | h)
      · exact .inl (beq_eq h).symm
      · exact .inr h
    · rintro (h | h)
      · subst h; exact .inl (Nat.beq_refl _)
      · exact .inr h
def nodupN : List Nat → Bool
  | [] => true
  | a :: r => !memN r a && nodupN r
theorem nodupN_ok : ∀ {m : List Nat}, nodupN m = true → ∀ (i j b : Nat), m[i]? = some b → m[j]? = some b → i = j
  | [], _, i, j, b, h, _ => by simp at h
  | a :: r, hh, i, j, b, hi, hj => by
    simp only [nodupN, Bool.and_eq_true, Bool.not_eq_true'] at hh
    have hna : a ∉ r := fun hm => by rw [memN_iff.2 hm] at hh; exact absurd hh.1 (by simp)
    cases i with
    | zero =>
      cases j with
      | zero => rfl
      | succ j =>
        simp only [List.getElem?_cons_zero, Option.some.injEq] at hi
        rw [List.getElem?_cons_succ] at hj
        subst hi
        exact absurd (List.mem_of_getElem? hj) hna
    | succ i =>
      rw [List.getElem?_cons_succ] at hi
      cases j with
      | zero =>
        simp only [List.getElem?_cons_zero, Option.some.injEq] at hj
        subst hj
        exact absurd (List.mem_of_getElem? hi) hna
      | succ j => rw [List.getElem?_cons_succ] at hj; rw [nodupN_ok hh.2 i j b hi hj]
def allLt (n : Nat) : List Nat → Bool
  | [] => true
  | a :: r => Nat.blt a n && allLt n r
theorem allLt_ok {n : Nat} : ∀ {m : List Nat}, allLt n m = true → ∀ (i b : Nat), m[i]? = some b → b < n
  | [], _, i, b, h => by simp at h
  | a :: r, hh, i, b, h => by
    simp only [allLt, Bool.and_eq_true] at hh
    cases i with
    | zero => simp only [List.getElem?_cons_zero, Option.some.injEq] at h; subst h; simpa [Nat.blt_eq] using hh.1
    | succ i => rw [List.getElem?_cons_succ] at h; exact allLt_ok hh.2 i b h
def envOf (ρ : Env) (m : List Nat) : Env := fun k => match m[k]? with | some b => ρ b | none => none
theorem ren_env (ρ : Env) (m : List Nat) : Ren (posOf m) ρ (envOf ρ m) := by
  intro b k x h hx
  simp [envOf, posOf_get h, hx]
/-- The blocks m alone, named by their places in m. -/
def subH (h : List HB) (m : List Nat) : List Nat → List HB
  | [] => []
  | b :: r => renH (posOf m) ((nth h b).getD .gone) :: subH h m r
theorem subH_get {h : List HB} {m : List Nat} : ∀ {r : List Nat} {k : Nat} {it : HB}, (subH h m r)[k]? = some it → ∃ b, r[k]? = some b ∧ it = renH (posOf m) (h[b]?.getD .gone)
  | [], k, it, hk => by simp [subH] at hk
  | b :: r, k, it, hk => by
    cases k with
    | zero => simp only [subH, List.getElem?_cons_zero, Option.some.injEq] at hk; exact ⟨b, rfl, by rw [← hk, nth_eq]⟩
    | succ k => simp only [subH, List.getElem?_cons_succ] at hk ⊢; exact subH_get hk
theorem subH_len {h : List HB} {m : List Nat} : ∀ (r : List Nat), (subH h m r).length = r.length
  | [] => rfl
  | _ :: r => by simp only [subH, List.length_cons, subH_len r]
theorem own_env {ρ : Env} {m : List Nat} {k g : Nat} (h : own (envOf ρ m k) g) : ∃ b, m[k]? = some b ∧ own (ρ b) g := by
  unfold envOf at h
  split at h
  · rename_i b hb; exact ⟨b, hb, h⟩
  · exact h.elim
theorem hsat_sub {π : Pers} {ρ : Env} {h : List HB} {w : World} (H : HSat π ρ h w) {m : List Nat} (hn : nodupN m = true) (hl : allLt h.length m = true) : HSat π (envOf ρ m) (subH h m m) w := by
  have hlen := subH_len (h := h) (m := m) m
  have hgo : ∀ k g, own (envOf ρ m k) g → ∃ b, m[k]? = some b ∧ own (ρ b) g := fun k g h => own_env h
  refine ⟨?_, ?_, ?_, ?_, H.pers, ?_⟩
  · intro k it hk
    obtain ⟨b, hb, rfl⟩ := subH_get hk
    have hbl := allLt_ok hl k b hb
    have hit := H.items b _ (List.getElem?_eq_getElem hbl)
    rw [List.getElem?_eq_getElem hbl]
    simp only [Option.getD_some]
    have he : envOf ρ m k = ρ b := by simp [envOf, hb]
    generalize h[b] = x at hit
    cases x with
    | cells t cs =>
      obtain ⟨g, vs, h1, h2, h3⟩ := hit
      exact ⟨g, vs, by rw [he]; simpa using h1, h2, all2_map (den_ren (ren_env ρ m)) h3⟩
    | row e t xs =>
      rcases hit with hit | ⟨g, o, vs, h1, h2⟩
      · exact .inl (by rw [he]; exact hit)
      · exact .inr ⟨g, o, vs, by rw [he]; exact h1, h2⟩
    | map ka kt va vt es =>
      obtain ⟨g, ms, clock, h1, h2⟩ := hit
      exact ⟨g, ms, clock, by rw [he]; exact h1, h2⟩
    | nest e bx fs xs hole =>
      rcases hit with ⟨h1, h2, h3⟩ | ⟨g, o, vs, Ls, h1, h2, h3, h4, h5, h6, h7⟩
      · subst h3; exact .inl ⟨by rw [he]; exact h1, h2, rfl⟩
      · cases hole with
        | none => exact .inr ⟨g, o, vs, Ls, by rw [he]; exact h1, h2, h3, h4, h5, h6, h7⟩
        | some q =>
          obtain ⟨j, hs⟩ := q
          exact .inr ⟨g, o, vs, Ls, by rw [he]; exact h1, h2, h3, h4, h5, h6, fun i x L hi hL => nestAt_keep (fun _ _ h => h) (fun _ _ => rfl) (fun j' hs' hh => by cases hh; exact ⟨_, rfl, all2_map (den_ren (ren_env ρ m))⟩) (fun h => by cases h) (h7 i x L hi hL)⟩
    | gone => trivial
  · intro k hk g hr
    obtain ⟨b, hb, hr'⟩ := hgo k g hr
    exact H.lt b (allLt_ok hl k b hb) g hr'
  · intro k k' g hk hk' h1 h2
    obtain ⟨b, hb, hr⟩ := hgo k g h1
    obtain ⟨b', hb', hr'⟩ := hgo k' g h2
    have := H.inj b b' g (allLt_ok hl k b hb) (allLt_ok hl k' b' hb') hr hr'
    subst this
    exact nodupN_ok hn k k' b hb hb'
  · intro k g hk hr
    obtain ⟨b, hb, hr'⟩ := hgo k g hr
    exact H.apart b g (allLt_ok hl k b hb) hr'
  · intro k hk
    rw [hlen] at hk
    simp [envOf, List.getElem?_eq_none hk]
/-- A state in which the blocks m alone are known. -/
def restrict (s : SS) (m : List Nat) : SS := { nt := s.nt, fr := renF (posOf m) s.fr, hp := subH s.hp m m }
theorem sat_restrict {π : Pers} {ρ : Env} {s : SS} {a : Act} {w : World} (S : Sat π ρ s a w) {m : List Nat} (hn : nodupN m = true) (hl : allLt s.hp.length m = true) : Sat π (envOf ρ m) (restrict s m) a w := by
  refine ⟨hsat_sub S.hs hn hl, ?_, S.df, S.nt, once_ren S.on⟩
  intro i v hi
  obtain ⟨u, hu, rfl⟩ := lk_ren hi
  exact slot_ren (ren_env ρ m) u (S.fs i u hu)
def isPre (N : Nat) (m : List Nat) : Bool := match N, m with
  | 0, _ => true
  | _ + 1, [] => false
  | N + 1, _ => pre (N + 1) 0 m
where pre : Nat → Nat → List Nat → Bool
  | 0, _, _ => true
  | _ + 1, _, [] => false
  | n + 1, i, a :: r => Nat.beq a i && pre n (i + 1) r
theorem pre_ok : ∀ {n i : Nat} {m : List Nat}, isPre.pre n i m = true → ∀ k, k < n → m[k]? = some (i + k)
  | 0, _, _, _, k, hk => by omega
  | n + 1, i, [], h, _, _ => by simp [isPre.pre] at h
  | n + 1, i, a :: r, h, k, hk => by
    simp only [isPre.pre, Bool.and_eq_true] at h
    cases k with
    | zero => rw [beq_eq h.1]; rfl
    | succ k => rw [List.getElem?_cons_succ, pre_ok h.2 k (by omega)]; congr 1; omega
theorem isPre_ok {N : Nat} {m : List Nat} (h : isPre N m = true) : ∀ k, k < N → m[k]? = some k := by
  intro k hk
  unfold isPre at h
  split at h
  · omega
  · cases h
  · have := pre_ok h k hk; rwa [Nat.zero_add] at this
theorem step_restrict {N : Nat} {π : Pers} {ρ : Env} {h : List HB} {w : World} (H : HSat π ρ h w) {m : List Nat} (hl : allLt h.length m = true) (hN : isPre N m = true) {ρ' : Env} {h' : List HB} {w' : World} {π' : Pers} (St : Step N (envOf ρ m) (subH h m m) w π ρ' h' w' π') : Step N ρ h w π ρ' h' w' π' := by
  have hlen := subH_len (h := h) (m := m) m
  have hg : ∀ k g, own (envOf ρ m k) g → ∃ b, b < h.length ∧ own (ρ b) g := by
    intro k g hk
    obtain ⟨b, hb, h1⟩ := own_env hk
    exact ⟨b, allLt_ok hl k b hb, h1⟩
  refine ⟨St.os, St.tape, St.output, St.size, ?_, ?_, St.pmono, ?_, ?_⟩
  · intro g hgl hn
    refine St.block g hgl (fun k _ hr => ?_)
    obtain ⟨b, hb, hr'⟩ := hg k _ hr
    exact hn b hb hr'
  · intro k g hk hr
    rcases St.fresh k g hk hr with ⟨j, _, hj⟩ | hge
    · obtain ⟨b, hb, hr'⟩ := hg j _ hj; exact .inl ⟨b, hb, hr'⟩
    · exact .inr hge
  · intro g vs hv
    rcases St.pfresh g vs hv with h0 | ⟨j, _, hj⟩ | hge
    · exact .inl h0
    · obtain ⟨b, hb, hr'⟩ := hg j _ hj; exact .inr (.inl ⟨b, hb, hr'⟩)
    · exact .inr (.inr hge)
  · intro k it κ hk hit hκ
    have hm := isPre_ok hN k hk
    have hsub : (subH h m m)[k]? = some (renH (posOf m) it) := by
      have hlt : k < (subH h m m).length := by rw [hlen]; exact (List.getElem?_eq_some_iff.1 hm).1
      have hget := List.getElem?_eq_getElem hlt
      obtain ⟨b, hb, he⟩ := subH_get hget
      rw [hm] at hb
      cases hb
      rw [hget, he, hit]
      rfl
    obtain ⟨e1, it', h1, k1⟩ := St.keep k _ κ hk hsub (by rw [knd_ren]; exact hκ)
    refine ⟨?_, it', h1, k1⟩
    rw [e1]
    simp [envOf, hm]
end Go.Proofs.Ytkpepieepdmjpaa.Sx
