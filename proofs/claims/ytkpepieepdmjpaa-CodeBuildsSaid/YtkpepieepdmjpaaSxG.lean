/- A machine of abstract states over the model, part G: slots that are filled; blocks that are made and written to. No condition. -/
import Derived.Test.YtkpepieepdmjpaaSxF
namespace Go.Proofs.Ytkpepieepdmjpaa.Sx
open Go
set_option linter.unusedVariables false
set_option linter.unusedSimpArgs false

def setF (s : SS) (d : Nat) (v : SV) : SS := { s with fr := up s.fr d v }
theorem sat_set {π : Pers} {ρ : Env} {s : SS} {a : Act} {w : World} (S : Sat π ρ s a w) {d : Nat} (hd : d < s.nt) (u : Value) (x : SV) (hx : SlotIs π ρ (a.tmps.setIfInBounds d u) d x) : Sat π ρ (setF s d x) (a.put (some d) u) w := by
  refine ⟨S.hs, ?_, S.df, by simpa [Act.put, setF] using S.nt, once_up S.on⟩
  intro i v hi
  simp only [setF, up, lk] at hi
  cases hb : Nat.beq d i with
  | true =>
    rw [hb] at hi
    simp only [cond_true, Option.some.injEq] at hi
    have := beq_eq hb
    subst this hi
    exact hx
  | false =>
    rw [hb] at hi
    simp only [cond_false] at hi
    obtain ⟨h1, h2, _⟩ := lk_rm _ _ _ _ hi
    exact slot_put u h1 v h2 (S.fs i v (lk_rm_once S.on hi))
theorem sat_p {π : Pers} {ρ : Env} {s : SS} {a : Act} {w : World} (S : Sat π ρ s a w) {d : Nat} (hd : d < s.nt) {u : Value} {x : PV} (hx : DenP π ρ x u) : Sat π ρ (setF s d (.p x)) (a.put (some d) u) w := by
  refine sat_set S hd u _ ⟨u, ?_, hx⟩
  rw [Array.getElem?_setIfInBounds_self_of_lt (by rw [S.nt]; exact hd)]
theorem sat_tup {π : Pers} {ρ : Env} {s : SS} {a : Act} {w : World} (S : Sat π ρ s a w) {d : Nat} (hd : d < s.nt) {u : Value} {x : List PV} (hx : DenT π ρ x u) : Sat π ρ (setF s d (.tup x)) (a.put (some d) u) w := by
  refine sat_set S hd u _ ⟨u, ?_, hx⟩
  rw [Array.getElem?_setIfInBounds_self_of_lt (by rw [S.nt]; exact hd)]
theorem sat_drop {π : Pers} {ρ : Env} {s : SS} {a : Act} {w : World} (S : Sat π ρ s a w) (d : Nat) (u : Value) : Sat π ρ { s with fr := rm s.fr d } (a.put (some d) u) w := by
  refine ⟨S.hs, ?_, S.df, by simpa [Act.put] using S.nt, once_rm S.on⟩
  intro i v hi
  obtain ⟨h1, h2, _⟩ := lk_rm _ _ _ _ hi
  exact slot_put u h1 v h2 (S.fs i v (lk_rm_once S.on hi))
/-- The result goes to a slot, or nowhere. -/
def putK (s : SS) (dst : Option Nat) (v : SV) (K : SS → Prop) : Prop :=
  match dst with
  | some d => bif Nat.blt d s.nt then K (setF s d v) else False
  | none => K s
theorem putK_ok {π : Pers} {ρ : Env} {s : SS} {a : Act} {w : World} (S : Sat π ρ s a w) {dst : Option Nat} {u : Value} {x : PV} (hx : DenP π ρ x u) {K : SS → Prop} (h : putK s dst (.p x) K) : ∃ s', Sat π ρ s' (a.put dst u) w ∧ K s' ∧ s'.hp = s.hp := by
  cases dst with
  | none => exact ⟨s, S, h, rfl⟩
  | some d =>
    simp only [putK] at h
    cases hb : Nat.blt d s.nt with
    | false => rw [hb] at h; exact h.elim
    | true => rw [hb] at h; exact ⟨_, sat_p S (by simpa [Nat.blt_eq] using hb) hx, h, rfl⟩
theorem putK_tup {π : Pers} {ρ : Env} {s : SS} {a : Act} {w : World} (S : Sat π ρ s a w) {dst : Option Nat} {u : Value} {x : List PV} (hx : DenT π ρ x u) {K : SS → Prop} (h : putK s dst (.tup x) K) : ∃ s', Sat π ρ s' (a.put dst u) w ∧ K s' ∧ s'.hp = s.hp := by
  cases dst with
  | none => exact ⟨s, S, h, rfl⟩
  | some d =>
    simp only [putK] at h
    cases hb : Nat.blt d s.nt with
    | false => rw [hb] at h; exact h.elim
    | true => rw [hb] at h; exact ⟨_, sat_tup S (by simpa [Nat.blt_eq] using hb) hx, h, rfl⟩

/-- The state where the heap and what it is read by have changed, the slots as they were. -/
theorem sat_heap {π π' : Pers} {ρ ρ' : Env} {s : SS} {a : Act} {w w' : World} (S : Sat π ρ s a w) {h' : List HB} (H : HSat π' ρ' h' w') (hp : ∀ g vs, π g = some vs → π' g = some vs) (hr : ∀ b x, ρ b = some x → ρ' b = some x) : Sat π' ρ' { s with hp := h' } a w' :=
  ⟨H, fun i v hi => slot_up hp hr v (S.fs i v hi), S.df, S.nt, S.on⟩
theorem once_jk {b : Nat} : ∀ {fr : List (Nat × SV)}, once fr = true → once (jkF b fr) = true
  | [], _ => rfl
  | (j, u) :: r, h => by
    simp only [once, Bool.and_eq_true, jkF] at h ⊢
    refine ⟨?_, once_jk h.2⟩
    cases hl : lk (jkF b r) j with
    | none => rfl
    | some x => obtain ⟨y, hy, _⟩ := lk_jk hl; rw [hy] at h; exact absurd h.1 (by simp)
theorem sat_jk {π : Pers} {ρ ρ' : Env} {s : SS} {a : Act} {w w' : World} (S : Sat π ρ s a w) {b : Nat} {h' : List HB} (H : HSat π ρ' h' w') (hr : ∀ k, k ≠ b → ρ' k = ρ k) : Sat π ρ' { s with fr := jkF b s.fr, hp := h' } a w' := by
  refine ⟨H, ?_, S.df, S.nt, once_jk S.on⟩
  intro i v hi
  obtain ⟨u, hu, rfl⟩ := lk_jk hi
  exact slot_jk hr u (S.fs i u hu)

/-! ### what a value's cells are -/
def solid : CV → Bool | .junk => false | _ => true
def solids : List CV → Bool | [] => true | c :: r => solid c && solids r
def cellsP : PV → Option (List CV)
  | .c c => bif solid c then some [c] else none
  | .agg l => bif solids l then some l else none
  | .clo _ _ => none
theorem den_one {π : Pers} {ρ : Env} {c : CV} {v : Value} (hs : solid c = true) (h : DenC π ρ c v) : v.oneCell' = true := by
  cases c with
  | int k n => simp only [DenC] at h; subst h; rfl
  | bool b => simp only [DenC] at h; subst h; rfl
  | str s => obtain ⟨rfl, _⟩ := h; rfl
  | nilp => simp only [DenC] at h; subst h; rfl
  | ptr b o => obtain ⟨g, p, n, _, rfl⟩ := h; rfl
  | rptr t b i j => obtain ⟨g, p, n, _, rfl⟩ := h; rfl
  | eptr t xs i j => obtain ⟨g, p, n, _, _, rfl⟩ := h; rfl
  | nils => simp only [DenC] at h; subst h; rfl
  | row t xs => obtain ⟨A, c, rfl, _⟩ := h; rfl
  | view t b a n => rcases h with ⟨_, A, rfl⟩ | ⟨g, o, m, c, _, _, _, _, rfl⟩ <;> rfl
  | func f => simp only [DenC] at h; subst h; rfl
  | nili => simp only [DenC] at h; subst h; rfl
  | mp b => obtain ⟨g, p, n, _, rfl⟩ := h; rfl
  | nilm => simp only [DenC] at h; subst h; rfl
  | nilf => simp only [DenC] at h; subst h; rfl
  | junk => simp [solid] at hs
theorem dens_one {π : Pers} {ρ : Env} : ∀ {cs : List CV} {vs : List Value}, solids cs = true → All2 (DenC π ρ) cs vs → ∀ u ∈ vs, u.oneCell' = true
  | [], [], _, _ => by simp
  | c :: cs, v :: vs, hs, h => by
    simp only [solids, Bool.and_eq_true] at hs
    intro u hu
    rcases List.mem_cons.1 hu with rfl | hu
    · exact den_one hs.1 h.1
    · exact dens_one hs.2 h.2 u hu
  | [], _ :: _, _, h => h.elim
  | _ :: _, [], _, h => h.elim
theorem cells_one {v : Value} (h : v.oneCell' = true) : v.cells = #[v] := by
  cases v <;> first | rfl | simp [Value.oneCell'] at h
theorem cellsP_ok {π : Pers} {ρ : Env} {x : PV} {v : Value} (hx : DenP π ρ x v) {cs : List CV} (h : cellsP x = some cs) : All2 (DenC π ρ) cs v.cells.toList ∧ ∀ u ∈ v.cells.toList, u.oneCell' = true := by
  cases x with
  | c c =>
    simp only [cellsP] at h
    cases hs : solid c with
    | false => rw [hs] at h; cases h
    | true =>
      rw [hs] at h
      cases h
      have h1 := den_one hs hx
      rw [cells_one h1]
      exact ⟨⟨hx, trivial⟩, by simpa using h1⟩
  | agg l =>
    simp only [cellsP] at h
    cases hs : solids l with
    | false => rw [hs] at h; cases h
    | true =>
      rw [hs] at h
      cases h
      obtain ⟨vs, rfl, hv⟩ := hx
      simp only [Value.cells]
      exact ⟨hv, dens_one hs hv⟩
  | clo f l => cases h

/-! ### a block more -/
theorem heap_new {w : World} (o : Obj) : (w.alloc o).heap[w.heap.size]? = some o := heap_alloc_new w o
theorem keep_new {N : Nat} {ρ : Env} {h : List HB} (it : HB) (r : Option (Nat × Nat × Nat × List Nat)) : ∀ k x κ, k < N → h[k]? = some x → knd x = some κ → updE ρ h.length r k = ρ k ∧ ∃ it', (h ++ [it])[k]? = some it' ∧ knd it' = some κ := by
  intro k x κ _ hk hκ
  have hlt := (List.getElem?_eq_some_iff.1 hk).1
  exact ⟨updE_other ρ r (by omega), x, by rw [List.getElem?_append_left hlt]; exact hk, hκ⟩
theorem keep_set {N : Nat} {ρ : Env} {h : List HB} (b : Nat) (it : HB) (hit : ∀ x κ, h[b]? = some x → knd x = some κ → knd it = some κ) : ∀ k x κ, k < N → h[k]? = some x → knd x = some κ → ρ k = ρ k ∧ ∃ it', (h.set b it)[k]? = some it' ∧ knd it' = some κ := by
  intro k x κ _ hk hκ
  have hlt := (List.getElem?_eq_some_iff.1 hk).1
  refine ⟨rfl, ?_⟩
  rw [List.getElem?_set]
  by_cases hb : b = k
  · subst hb; exact ⟨it, by simp [hlt], hit x κ hk hκ⟩
  · exact ⟨x, by rw [if_neg hb]; exact hk, hκ⟩
theorem keep_move {N : Nat} {ρ : Env} {h : List HB} (b : Nat) (it : HB) (r : Option (Nat × Nat × Nat × List Nat)) (hb : ∀ x κ, h[b]? = some x → knd x ≠ some κ) : ∀ k x κ, k < N → h[k]? = some x → knd x = some κ → updE ρ b r k = ρ k ∧ ∃ it', ((h.map (jkH b)).set b it)[k]? = some it' ∧ knd it' = some κ := by
  intro k x κ _ hk hκ
  have hkb : k ≠ b := fun e => hb x κ (by rw [← e]; exact hk) hκ
  refine ⟨updE_other ρ r hkb, ?_⟩
  rw [List.getElem?_set_ne (fun e => hkb e.symm), List.getElem?_map, hk]
  refine ⟨_, rfl, ?_⟩
  cases x with
  | cells t cs => exact hκ
  | map ka kt va vt es => exact hκ
  | row e t xs => exact hκ
  | nest e bx fs xs hole => cases hκ
  | gone => cases hκ
theorem step_new {N : Nat} {π : Pers} {ρ : Env} {h : List HB} {w : World} (H : HSat π ρ h w) (o : Obj) (it : HB) (r : Option (Nat × Nat × Nat × List Nat)) (hr : ∀ g, own r g → w.heap.size ≤ g) : Step N ρ h w π (updE ρ h.length r) (h ++ [it]) (w.alloc o) π := by
  refine ⟨rfl, rfl, rfl, by simp, fun g hg _ => heap_alloc_old w o g hg, ?_, fun _ _ h => h, fun _ _ h => .inl h, keep_new it r⟩
  intro k g hk hr'
  simp only [List.length_append, List.length_cons, List.length_nil] at hk
  by_cases hkb : k = h.length
  · subst hkb; rw [updE_same] at hr'; exact .inr (hr g hr')
  · rw [updE_other ρ r hkb] at hr'; exact .inl ⟨k, by omega, hr'⟩
theorem own_one {g o : Nat} {n x : Nat} (h : own (some (g, o, n, [])) x) : x = g := by
  rcases h with h | h
  · exact h
  · cases h
/-- A new block of single cells. -/
theorem new_cells {N : Nat} {π : Pers} {ρ : Env} {s : SS} {a : Act} {w : World} (S : Sat π ρ s a w) (t : TypeId) {cs : List CV} {vs : Array Value} (hv : All2 (DenC π ρ) cs vs.toList) :
    ∃ ρ', Sat π ρ' { s with hp := s.hp ++ [.cells t cs] } a (w.alloc (.cells vs t)) ∧ Step N ρ s.hp w π ρ' (s.hp ++ [.cells t cs]) (w.alloc (.cells vs t)) π ∧ DenC π ρ' (.ptr s.hp.length 0) (.pointer (some ⟨w.heap.size, 0, none⟩)) := by
  have hup := upE_new S.hs (some (w.heap.size, 0, cs.length, []))
  refine ⟨updE ρ s.hp.length (some (w.heap.size, 0, cs.length, [])), ?_, step_new S.hs _ _ _ (fun g h => by rw [own_one h]; exact Nat.le_refl _), w.heap.size, 0, (cs.length, []), updE_same _ _ _, by simp⟩
  refine sat_heap S (hsat_new S.hs _ _ (by simp) (fun g hg => heap_alloc_old w _ g hg) (fun g h => by rw [own_one h]; exact ⟨Nat.le_refl _, by simp⟩) ?_) (fun _ _ h => h) hup
  exact ⟨w.heap.size, vs, updE_same _ _ _, heap_new _, all2_imp (den_up (fun _ _ h => h) hup) hv⟩

/-! ### 'alloc', 'box' -/
def zeroCs (P : Program) (t : TypeId) : Option (List CV) :=
  match P.info? t with
  | some i => match i.zero with
    | some z => constCs z.cells.toList
    | none => none
  | none => none
def allocP (P : Program) (s : SS) (t : TypeId) (dst : Option Nat) (K : SS → Prop) : Prop :=
  match zeroCs P t with
  | some cs => putK { s with hp := s.hp ++ [.cells t cs] } dst (.p (.c (.ptr s.hp.length 0))) K
  | none => False
abbrev Out (N : Nat) (P : Program) (π : Pers) (ρ : Env) (s : SS) (w : World) (K : SS → Prop) (a' : Act) (w' : World) : Prop :=
  ∃ π' ρ' s', Sat π' ρ' s' a' w' ∧ Step N ρ s.hp w π ρ' s'.hp w' π' ∧ K s'
theorem allocP_ok {N : Nat} {P : Program} {π : Pers} {ρ : Env} {s : SS} {a : Act} {w : World} (S : Sat π ρ s a w) {t : TypeId} {dst : Option Nat} {K : SS → Prop} (h : allocP P s t dst K) :
    ∃ u w', (Instr.alloc t true (.tuple #[])).run P w = .ok u w' ∧ Out N P π ρ s w K (a.put dst u) w' := by
  unfold allocP zeroCs at h
  split at h
  · rename_i cs hcs
    split at hcs
    · rename_i i hi
      split at hcs
      · rename_i z hz
        obtain ⟨ρ', S', St, hd⟩ := new_cells S t (constCs_ok hcs).1
        obtain ⟨s', h1, h2, h3⟩ := putK_ok (x := .c (.ptr s.hp.length 0)) S' hd h
        refine ⟨.pointer (some ⟨w.heap.size, 0, none⟩), w.alloc (.cells z.cells t), ?_, π, ρ', s', h1, by rw [h3]; exact St, h2⟩
        simp [Instr.alloc, zeroValue, typeInfo, hi, hz, newVar, newRow]
      · cases hcs
    · cases hcs
  · exact h.elim
def boxP (s : SS) (t : TypeId) (x : Option PV) (dst : Option Nat) (K : SS → Prop) : Prop :=
  match x with
  | some p => match cellsP p with
    | some cs => putK { s with hp := s.hp ++ [.cells t cs] } dst (.p (.c (.ptr s.hp.length 0))) K
    | none => False
  | none => False
theorem boxP_ok {N : Nat} {P : Program} {π : Pers} {ρ : Env} {s : SS} {a : Act} {w : World} (S : Sat π ρ s a w) {t : TypeId} {x : Option PV} {v : Value} (hx : ∀ p, x = some p → DenP π ρ p v) {dst : Option Nat} {K : SS → Prop} (h : boxP s t x dst K) :
    ∃ u w', (Instr.box t v).run P w = .ok u w' ∧ Out N P π ρ s w K (a.put dst u) w' := by
  unfold boxP at h
  split at h
  · rename_i p
    split at h
    · rename_i cs hcs
      obtain ⟨ρ', S', St, hd⟩ := new_cells S t (cellsP_ok (hx p rfl) hcs).1
      obtain ⟨s', h1, h2, h3⟩ := putK_ok (x := .c (.ptr s.hp.length 0)) S' hd h
      refine ⟨.pointer (some ⟨w.heap.size, 0, none⟩), w.alloc (.cells v.cells t), ?_, π, ρ', s', h1, by rw [h3]; exact St, h2⟩
      simp [Instr.box, newVar, newRow]
    · exact h.elim
  · exact h.elim

/-! ### stores -/
def splice {α : Type} (l : List α) (o : Nat) (n : List α) : List α := l.take o ++ n ++ l.drop (o + n.length)
theorem all2_splice {α β : Type} {R : α → β → Prop} {l : List α} {m : List β} {l' : List α} {m' : List β} (h : All2 R l m) (h' : All2 R l' m') (o : Nat) : All2 R (splice l o l') (splice m o m') := by
  unfold splice
  rw [all2_len h']
  exact all2_append (all2_append (all2_take h o) h') (all2_drop h _)
theorem splice_len {α : Type} {l n : List α} {o : Nat} (h : o + n.length ≤ l.length) : (splice l o n).length = l.length := by
  unfold splice; simp; omega
theorem step_put {N : Nat} {π : Pers} {ρ : Env} {h h' : List HB} {w w' : World} (H : HSat π ρ h w) (b : Nat) (hb : b < h.length) (hl : h'.length = h.length) (hkp : ∀ k x κ, k < N → h[k]? = some x → knd x = some κ → ρ k = ρ k ∧ ∃ it', h'[k]? = some it' ∧ knd it' = some κ) (e1 : w'.os = w.os) (e2 : w'.tape = w.tape) (e3 : w'.output = w.output) (hs : w.heap.size ≤ w'.heap.size) (hw : ∀ g, g < w.heap.size → ¬ own (ρ b) g → w'.heap[g]? = w.heap[g]?) : Step N ρ h w π ρ h' w' π :=
  ⟨e1, e2, e3, hs, fun g hg hn => hw g hg (hn b hb), fun k g hk hr => .inl ⟨k, by omega, hr⟩, fun _ _ h => h, fun _ _ h => .inl h, hkp⟩
end Go.Proofs.Ytkpepieepdmjpaa.Sx
