/- A machine of abstract states over the model: stores, rows, calls. No condition. -/
import Derived.Test.YtckijackbldkhaaSxU
import Derived.Laws.Tables
import Derived.Laws.MakeOwn
namespace Go.Proofs.Ytckijackbldkhaa.Sx
open Go
set_option linter.unusedVariables false
set_option linter.unusedSimpArgs false

def setF (s : SS) (d : Nat) (v : SV) : SS := { s with fr := up s.fr d v }
theorem sat_set {π : Pers} {ρ : Env} {s : SS} {a : Act} {w : World} (S : Sat π ρ s a w) {d : Nat} (hd : d < s.nt) (u : Value) (x : SV) (hx : SlotIs π ρ (a.tmps.setIfInBounds d u) d x) : Sat π ρ (setF s d x) (a.put (some d) u) w := by
  refine ⟨S.hs, ?_, S.df, by simpa [Act.put, setF] using S.nt, once_up S.on⟩
  intro i v hi
  simp only [setF, up, lk] at hi
  cases hb : Nat.beq d i with
  | true =>
    rw [hb] at hi
    simp only [cond_true, Option.some.injEq] at hi
    have := beq_eq hb
    subst this hi
    exact hx
  | false =>
    rw [hb] at hi
    simp only [cond_false] at hi
    obtain ⟨h1, h2, _⟩ := lk_rm _ _ _ _ hi
    exact slot_put u h1 v h2 (S.fs i v (lk_rm_once S.on hi))
theorem sat_p {π : Pers} {ρ : Env} {s : SS} {a : Act} {w : World} (S : Sat π ρ s a w) {d : Nat} (hd : d < s.nt) {u : Value} {x : PV} (hx : DenP π ρ x u) : Sat π ρ (setF s d (.p x)) (a.put (some d) u) w := by
  refine sat_set S hd u _ ⟨u, ?_, hx⟩
  rw [Array.getElem?_setIfInBounds_self_of_lt (by rw [S.nt]; exact hd)]
theorem sat_tup {π : Pers} {ρ : Env} {s : SS} {a : Act} {w : World} (S : Sat π ρ s a w) {d : Nat} (hd : d < s.nt) {u : Value} {x : List PV} (hx : DenT π ρ x u) : Sat π ρ (setF s d (.tup x)) (a.put (some d) u) w := by
  refine sat_set S hd u _ ⟨u, ?_, hx⟩
  rw [Array.getElem?_setIfInBounds_self_of_lt (by rw [S.nt]; exact hd)]
theorem sat_drop {π : Pers} {ρ : Env} {s : SS} {a : Act} {w : World} (S : Sat π ρ s a w) (d : Nat) (u : Value) : Sat π ρ { s with fr := rm s.fr d } (a.put (some d) u) w := by
  refine ⟨S.hs, ?_, S.df, by simpa [Act.put] using S.nt, once_rm S.on⟩
  intro i v hi
  obtain ⟨h1, h2, _⟩ := lk_rm _ _ _ _ hi
  exact slot_put u h1 v h2 (S.fs i v (lk_rm_once S.on hi))
/-- The result goes to a slot, or nowhere. -/
def putK (s : SS) (dst : Option Nat) (v : SV) (K : SS → Prop) : Prop :=
  match dst with
  | some d => bif Nat.blt d s.nt then K (setF s d v) else False
  | none => K s
theorem putK_ok {π : Pers} {ρ : Env} {s : SS} {a : Act} {w : World} (S : Sat π ρ s a w) {dst : Option Nat} {u : Value} {x : PV} (hx : DenP π ρ x u) {K : SS → Prop} (h : putK s dst (.p x) K) : ∃ s', Sat π ρ s' (a.put dst u) w ∧ K s' ∧ s'.hp = s.hp := by
  cases dst with
  | none => exact ⟨s, S, h, rfl⟩
  | some d =>
    simp only [putK] at h
    cases hb : Nat.blt d s.nt with
    | false => rw [hb] at h; exact h.elim
    | true => rw [hb] at h; exact ⟨_, sat_p S (by simpa [Nat.blt_eq] using hb) hx, h, rfl⟩
theorem putK_tup {π : Pers} {ρ : Env} {s : SS} {a : Act} {w : World} (S : Sat π ρ s a w) {dst : Option Nat} {u : Value} {x : List PV} (hx : DenT π ρ x u) {K : SS → Prop} (h : putK s dst (.tup x) K) : ∃ s', Sat π ρ s' (a.put dst u) w ∧ K s' ∧ s'.hp = s.hp := by
  cases dst with
  | none => exact ⟨s, S, h, rfl⟩
  | some d =>
    simp only [putK] at h
    cases hb : Nat.blt d s.nt with
    | false => rw [hb] at h; exact h.elim
    | true => rw [hb] at h; exact ⟨_, sat_tup S (by simpa [Nat.blt_eq] using hb) hx, h, rfl⟩

/-- The state where the heap and what it is read by have changed, the slots as they were. -/
theorem sat_heap {π π' : Pers} {ρ ρ' : Env} {s : SS} {a : Act} {w w' : World} (S : Sat π ρ s a w) {h' : List HB} (H : HSat π' ρ' h' w') (hp : ∀ g vs, π g = some vs → π' g = some vs) (hr : ∀ b x, ρ b = some x → ρ' b = some x) : Sat π' ρ' { s with hp := h' } a w' :=
  ⟨H, fun i v hi => slot_up hp hr v (S.fs i v hi), S.df, S.nt, S.on⟩
theorem once_jk {b : Nat} : ∀ {fr : List (Nat × SV)}, once fr = true → once (jkF b fr) = true
  | [], _ => rfl
  | (j, u) :: r, h => by
    simp only [once, Bool.and_eq_true, jkF] at h ⊢
    refine ⟨?_, once_jk h.2⟩
    cases hl : lk (jkF b r) j with
    | none => rfl
    | some x => obtain ⟨y, hy, _⟩ := lk_jk hl; rw [hy] at h; exact absurd h.1 (by simp)
theorem sat_jk {π : Pers} {ρ ρ' : Env} {s : SS} {a : Act} {w w' : World} (S : Sat π ρ s a w) {b : Nat} {h' : List HB} (H : HSat π ρ' h' w') (hr : ∀ k, k ≠ b → ρ' k = ρ k) : Sat π ρ' { s with fr := jkF b s.fr, hp := h' } a w' := by
  refine ⟨H, ?_, S.df, S.nt, once_jk S.on⟩
  intro i v hi
  obtain ⟨u, hu, rfl⟩ := lk_jk hi
  exact slot_jk hr u (S.fs i u hu)

/-! ### what a value's cells are -/
def solid : CV → Bool | .junk => false | _ => true
def solids : List CV → Bool | [] => true | c :: r => solid c && solids r
def cellsP : PV → Option (List CV)
  | .c c => bif solid c then some [c] else none
  | .agg l => bif solids l then some l else none
  | .clo _ _ => none
theorem den_one {π : Pers} {ρ : Env} {c : CV} {v : Value} (hs : solid c = true) (h : DenC π ρ c v) : v.oneCell' = true := by
  cases c with
  | int k n => simp only [DenC] at h; subst h; rfl
  | bool b => simp only [DenC] at h; subst h; rfl
  | str s => obtain ⟨rfl, _⟩ := h; rfl
  | nilp => simp only [DenC] at h; subst h; rfl
  | ptr b o => obtain ⟨g, p, n, _, rfl⟩ := h; rfl
  | rptr t b i j => obtain ⟨g, p, n, _, rfl⟩ := h; rfl
  | eptr t xs i j => obtain ⟨g, p, n, _, _, rfl⟩ := h; rfl
  | nils => simp only [DenC] at h; subst h; rfl
  | row t xs => obtain ⟨A, c, rfl, _⟩ := h; rfl
  | view t b a n => rcases h with ⟨_, A, rfl⟩ | ⟨g, o, m, c, _, _, _, _, rfl⟩ <;> rfl
  | func f => simp only [DenC] at h; subst h; rfl
  | nili => simp only [DenC] at h; subst h; rfl
  | mp b => obtain ⟨g, p, n, _, rfl⟩ := h; rfl
  | nilm => simp only [DenC] at h; subst h; rfl
  | nilf => simp only [DenC] at h; subst h; rfl
  | junk => simp [solid] at hs
theorem dens_one {π : Pers} {ρ : Env} : ∀ {cs : List CV} {vs : List Value}, solids cs = true → All2 (DenC π ρ) cs vs → ∀ u ∈ vs, u.oneCell' = true
  | [], [], _, _ => by simp
  | c :: cs, v :: vs, hs, h => by
    simp only [solids, Bool.and_eq_true] at hs
    intro u hu
    rcases List.mem_cons.1 hu with rfl | hu
    · exact den_one hs.1 h.1
    · exact dens_one hs.2 h.2 u hu
  | [], _ :: _, _, h => h.elim
  | _ :: _, [], _, h => h.elim
theorem cells_one {v : Value} (h : v.oneCell' = true) : v.cells = #[v] := by
  cases v <;> first | rfl | simp [Value.oneCell'] at h
theorem cellsP_ok {π : Pers} {ρ : Env} {x : PV} {v : Value} (hx : DenP π ρ x v) {cs : List CV} (h : cellsP x = some cs) : All2 (DenC π ρ) cs v.cells.toList ∧ ∀ u ∈ v.cells.toList, u.oneCell' = true := by
  cases x with
  | c c =>
    simp only [cellsP] at h
    cases hs : solid c with
    | false => rw [hs] at h; cases h
    | true =>
      rw [hs] at h
      cases h
      have h1 := den_one hs hx
      rw [cells_one h1]
      exact ⟨⟨hx, trivial⟩, by simpa using h1⟩
  | agg l =>
    simp only [cellsP] at h
    cases hs : solids l with
    | false => rw [hs] at h; cases h
    | true =>
      rw [hs] at h
      cases h
      obtain ⟨vs, rfl, hv⟩ := hx
      simp only [Value.cells]
      exact ⟨hv, dens_one hs hv⟩
  | clo f l => cases h

/-! ### a block more -/
theorem heap_new {w : World} (o : Obj) : (w.alloc o).heap[w.heap.size]? = some o := heap_alloc_new w o
theorem keep_new {N : Nat} {ρ : Env} {h : List HB} (it : HB) (r : Option (Nat × Nat × Nat × List Nat)) : ∀ k x κ, k < N → h[k]? = some x → knd x = some κ → updE ρ h.length r k = ρ k ∧ ∃ it', (h ++ [it])[k]? = some it' ∧ knd it' = some κ := by
  intro k x κ _ hk hκ
  have hlt := (List.getElem?_eq_some_iff.1 hk).1
  exact ⟨updE_other ρ r (by omega), x, by rw [List.getElem?_append_left hlt]; exact hk, hκ⟩
theorem keep_set {N : Nat} {ρ : Env} {h : List HB} (b : Nat) (it : HB) (hit : ∀ x κ, h[b]? = some x → knd x = some κ → knd it = some κ) : ∀ k x κ, k < N → h[k]? = some x → knd x = some κ → ρ k = ρ k ∧ ∃ it', (h.set b it)[k]? = some it' ∧ knd it' = some κ := by
  intro k x κ _ hk hκ
  have hlt := (List.getElem?_eq_some_iff.1 hk).1
  refine ⟨rfl, ?_⟩
  rw [List.getElem?_set]
  by_cases hb : b = k
  · subst hb; exact ⟨it, by simp [hlt], hit x κ hk hκ⟩
  · exact ⟨x, by rw [if_neg hb]; exact hk, hκ⟩
theorem keep_move {N : Nat} {ρ : Env} {h : List HB} (b : Nat) (it : HB) (r : Option (Nat × Nat × Nat × List Nat)) (hb : ∀ x κ, h[b]? = some x → knd x ≠ some κ) : ∀ k x κ, k < N → h[k]? = some x → knd x = some κ → updE ρ b r k = ρ k ∧ ∃ it', ((h.map (jkH b)).set b it)[k]? = some it' ∧ knd it' = some κ := by
  intro k x κ _ hk hκ
  have hkb : k ≠ b := fun e => hb x κ (by rw [← e]; exact hk) hκ
  refine ⟨updE_other ρ r hkb, ?_⟩
  rw [List.getElem?_set_ne (fun e => hkb e.symm), List.getElem?_map, hk]
  refine ⟨_, rfl, ?_⟩
  cases x with
  | cells t cs => exact hκ
  | map ka kt va vt es => exact hκ
  | row e t xs => exact hκ
  | nest e bx fs xs hole => cases hκ
  | gone => cases hκ
theorem step_new {N : Nat} {π : Pers} {ρ : Env} {h : List HB} {w : World} (H : HSat π ρ h w) (o : Obj) (it : HB) (r : Option (Nat × Nat × Nat × List Nat)) (hr : ∀ g, own r g → w.heap.size ≤ g) : Step N ρ h w π (updE ρ h.length r) (h ++ [it]) (w.alloc o) π := by
  refine ⟨rfl, rfl, rfl, by simp, fun g hg _ => heap_alloc_old w o g hg, ?_, fun _ _ h => h, fun _ _ h => .inl h, keep_new it r⟩
  intro k g hk hr'
  simp only [List.length_append, List.length_cons, List.length_nil] at hk
  by_cases hkb : k = h.length
  · subst hkb; rw [updE_same] at hr'; exact .inr (hr g hr')
  · rw [updE_other ρ r hkb] at hr'; exact .inl ⟨k, by omega, hr'⟩
theorem own_one {g o : Nat} {n x : Nat} (h : own (some (g, o, n, [])) x) : x = g := by
  rcases h with h | h
  · exact h
  · cases h
/-- A new block of single cells. -/
theorem new_cells {N : Nat} {π : Pers} {ρ : Env} {s : SS} {a : Act} {w : World} (S : Sat π ρ s a w) (t : TypeId) {cs : List CV} {vs : Array Value} (hv : All2 (DenC π ρ) cs vs.toList) :
    ∃ ρ', Sat π ρ' { s with hp := s.hp ++ [.cells t cs] } a (w.alloc (.cells vs t)) ∧ Step N ρ s.hp w π ρ' (s.hp ++ [.cells t cs]) (w.alloc (.cells vs t)) π ∧ DenC π ρ' (.ptr s.hp.length 0) (.pointer (some ⟨w.heap.size, 0, none⟩)) := by
  have hup := upE_new S.hs (some (w.heap.size, 0, cs.length, []))
  refine ⟨updE ρ s.hp.length (some (w.heap.size, 0, cs.length, [])), ?_, step_new S.hs _ _ _ (fun g h => by rw [own_one h]; exact Nat.le_refl _), w.heap.size, 0, (cs.length, []), updE_same _ _ _, by simp⟩
  refine sat_heap S (hsat_new S.hs _ _ (by simp) (fun g hg => heap_alloc_old w _ g hg) (fun g h => by rw [own_one h]; exact ⟨Nat.le_refl _, by simp⟩) ?_) (fun _ _ h => h) hup
  exact ⟨w.heap.size, vs, updE_same _ _ _, heap_new _, all2_imp (den_up (fun _ _ h => h) hup) hv⟩

/-! ### 'alloc', 'box' -/
def zeroCs (P : Program) (t : TypeId) : Option (List CV) :=
  match P.info? t with
  | some i => match i.zero with
    | some z => constCs z.cells.toList
    | none => none
  | none => none
def allocP (P : Program) (s : SS) (t : TypeId) (dst : Option Nat) (K : SS → Prop) : Prop :=
  match zeroCs P t with
  | some cs => putK { s with hp := s.hp ++ [.cells t cs] } dst (.p (.c (.ptr s.hp.length 0))) K
  | none => False
abbrev Out (N : Nat) (P : Program) (π : Pers) (ρ : Env) (s : SS) (w : World) (K : SS → Prop) (a' : Act) (w' : World) : Prop :=
  ∃ π' ρ' s', Sat π' ρ' s' a' w' ∧ Step N ρ s.hp w π ρ' s'.hp w' π' ∧ K s'
theorem allocP_ok {N : Nat} {P : Program} {π : Pers} {ρ : Env} {s : SS} {a : Act} {w : World} (S : Sat π ρ s a w) {t : TypeId} {dst : Option Nat} {K : SS → Prop} (h : allocP P s t dst K) :
    ∃ u w', (Instr.alloc t true (.tuple #[])).run P w = .ok u w' ∧ Out N P π ρ s w K (a.put dst u) w' := by
  unfold allocP zeroCs at h
  split at h
  · rename_i cs hcs
    split at hcs
    · rename_i i hi
      split at hcs
      · rename_i z hz
        obtain ⟨ρ', S', St, hd⟩ := new_cells S t (constCs_ok hcs).1
        obtain ⟨s', h1, h2, h3⟩ := putK_ok (x := .c (.ptr s.hp.length 0)) S' hd h
        refine ⟨.pointer (some ⟨w.heap.size, 0, none⟩), w.alloc (.cells z.cells t), ?_, π, ρ', s', h1, by rw [h3]; exact St, h2⟩
        simp [Instr.alloc, zeroValue, typeInfo, hi, hz, newVar, newRow]
      · cases hcs
    · cases hcs
  · exact h.elim
def boxP (s : SS) (t : TypeId) (x : Option PV) (dst : Option Nat) (K : SS → Prop) : Prop :=
  match x with
  | some p => match cellsP p with
    | some cs => putK { s with hp := s.hp ++ [.cells t cs] } dst (.p (.c (.ptr s.hp.length 0))) K
    | none => False
  | none => False
theorem boxP_ok {N : Nat} {P : Program} {π : Pers} {ρ : Env} {s : SS} {a : Act} {w : World} (S : Sat π ρ s a w) {t : TypeId} {x : Option PV} {v : Value} (hx : ∀ p, x = some p → DenP π ρ p v) {dst : Option Nat} {K : SS → Prop} (h : boxP s t x dst K) :
    ∃ u w', (Instr.box t v).run P w = .ok u w' ∧ Out N P π ρ s w K (a.put dst u) w' := by
  unfold boxP at h
  split at h
  · rename_i p
    split at h
    · rename_i cs hcs
      obtain ⟨ρ', S', St, hd⟩ := new_cells S t (cellsP_ok (hx p rfl) hcs).1
      obtain ⟨s', h1, h2, h3⟩ := putK_ok (x := .c (.ptr s.hp.length 0)) S' hd h
      refine ⟨.pointer (some ⟨w.heap.size, 0, none⟩), w.alloc (.cells v.cells t), ?_, π, ρ', s', h1, by rw [h3]; exact St, h2⟩
      simp [Instr.box, newVar, newRow]
    · exact h.elim
  · exact h.elim

/-! ### stores -/
def splice {α : Type} (l : List α) (o : Nat) (n : List α) : List α := l.take o ++ n ++ l.drop (o + n.length)
theorem all2_splice {α β : Type} {R : α → β → Prop} {l : List α} {m : List β} {l' : List α} {m' : List β} (h : All2 R l m) (h' : All2 R l' m') (o : Nat) : All2 R (splice l o l') (splice m o m') := by
  unfold splice
  rw [all2_len h']
  exact all2_append (all2_append (all2_take h o) h') (all2_drop h _)
theorem splice_len {α : Type} {l n : List α} {o : Nat} (h : o + n.length ≤ l.length) : (splice l o n).length = l.length := by
  unfold splice; simp; omega
theorem step_put {N : Nat} {π : Pers} {ρ : Env} {h h' : List HB} {w w' : World} (H : HSat π ρ h w) (b : Nat) (hb : b < h.length) (hl : h'.length = h.length) (hkp : ∀ k x κ, k < N → h[k]? = some x → knd x = some κ → ρ k = ρ k ∧ ∃ it', h'[k]? = some it' ∧ knd it' = some κ) (e1 : w'.os = w.os) (e2 : w'.tape = w.tape) (e3 : w'.output = w.output) (hs : w.heap.size ≤ w'.heap.size) (hw : ∀ g, g < w.heap.size → ¬ own (ρ b) g → w'.heap[g]? = w.heap[g]?) : Step N ρ h w π ρ h' w' π :=
  ⟨e1, e2, e3, hs, fun g hg hn => hw g hg (hn b hb), fun k g hk hr => .inl ⟨k, by omega, hr⟩, fun _ _ h => h, fun _ _ h => .inl h, hkp⟩
end Go.Proofs.Ytckijackbldkhaa.Sx
namespace Go.Proofs.Ytckijackbldkhaa.Sx
open Go
set_option linter.unusedVariables false
set_option linter.unusedSimpArgs false

theorem splice_get {α : Type} {l n : List α} {o : Nat} (h : o + n.length ≤ l.length) (i : Nat) : (splice l o n)[i]? = if i < o then l[i]? else if i < o + n.length then n[i - o]? else l[i]? := by
  unfold splice
  rw [List.append_assoc]
  by_cases h1 : i < o
  · rw [if_pos h1, List.getElem?_append_left (by rw [List.length_take]; omega), List.getElem?_take, if_pos h1]
  · rw [if_neg h1, List.getElem?_append_right (by rw [List.length_take]; omega), List.length_take, Nat.min_eq_left (by omega)]
    by_cases h2 : i < o + n.length
    · rw [if_pos h2, List.getElem?_append_left (by omega)]
    · rw [if_neg h2, List.getElem?_append_right (by omega), List.getElem?_drop]
      congr 1
      omega
theorem seg_get' {l : List Value} {o n i : Nat} (hi : i < n) : (seg l o n)[i]? = l[o + i]? := by
  unfold seg
  rw [List.getElem?_take, if_pos hi, List.getElem?_drop]
theorem seg_len {l : List Value} {o n : Nat} (h : o + n ≤ l.length) : (seg l o n).length = n := by
  unfold seg; rw [List.length_take, List.length_drop]; omega
theorem seg_other {l n : List Value} {o q sz : Nat} (h : o + n.length ≤ l.length) (hq : q + sz ≤ o ∨ o + n.length ≤ q) : seg (splice l o n) q sz = seg l q sz := by
  apply List.ext_getElem?
  intro i
  by_cases hi : i < sz
  · rw [seg_get' hi, seg_get' hi, splice_get h]
    split
    · rfl
    · split
      · omega
      · rfl
  · rw [List.getElem?_eq_none (by unfold seg; rw [List.length_take]; omega), List.getElem?_eq_none (by unfold seg; rw [List.length_take]; omega)]
theorem seg_same {l n : List Value} {p j sz : Nat} (h : p + sz ≤ l.length) (hj : j + n.length ≤ sz) : seg (splice l (p + j) n) p sz = splice (seg l p sz) j n := by
  have hl := seg_len h
  apply List.ext_getElem?
  intro i
  by_cases hi : i < sz
  · rw [seg_get' hi, splice_get (by omega), splice_get (by omega)]
    by_cases h1 : i < j
    · rw [if_pos (by omega), if_pos h1, seg_get' hi]
    · rw [if_neg (by omega), if_neg h1]
      by_cases h2 : i < j + n.length
      · rw [if_pos (by omega), if_pos h2]; congr 1; omega
      · rw [if_neg (by omega), if_neg h2, seg_get' hi]
  · rw [List.getElem?_eq_none (by unfold seg; rw [List.length_take]; omega), List.getElem?_eq_none (by rw [splice_len (by omega)]; omega)]

def storeP (P : Program) (s : SS) (t : TypeId) (ad v : Option PV) (K : SS → Prop) : Prop :=
  match ad, v with
  | some a, some p => match cellsP p, szOf P t with
    | some cs, some n => bif Nat.beq cs.length n then
        match a with
        | .c (.ptr b off) => match nth s.hp b with
          | some (.cells t0 c0) => bif Nat.ble (off + n) c0.length then K { s with hp := s.hp.set b (.cells t0 (splice c0 off cs)) } else False
          | _ => False
        | .c (.rptr ty b i j) => match nth s.hp b with
          | some (.row e ty' xs) => bif decide (ty = ty') && Nat.ble (j + n) ty.sz then
              match fromCV ty' (splice (toCV ty' (xs.getD i ty'.dft)) j cs) with
              | some (x', []) => i < xs.length ∧ K { s with hp := s.hp.set b (.row e ty' (xs.set i x')) }
              | _ => False
            else False
          | some (.nest e bx fs xs (some (q, hs))) => bif Nat.beq ty.sz (nsz bx fs) && Nat.ble (j + n) hs.length then
              i = q ∧ i < xs.length ∧ K { s with hp := s.hp.set b (.nest e bx fs xs (some (q, splice hs j cs))) }
            else False
          | _ => False
        | _ => False
      else False
    | _, _ => False
  | _, _ => False
theorem run_storeAt {P : Program} {t : TypeId} {n g o : Nat} {v : Value} {w : World} {cur : Array Value} {t0 : TypeId} (hn : szOf P t = some n) (hg : w.heap[g]? = some (.cells cur t0 (0, 0))) (hl : v.cells.toList.length = n) (hfit : o + n ≤ cur.size) (h1 : ∀ u ∈ v.cells.toList, u.oneCell' = true) :
    (Instr.storeAt t (.pointer (some ⟨g, o, none⟩)) v).run P w = .ok () (w.setRow g (splice cur.toList o v.cells.toList).toArray) := by
  have hst := run_storeCells_at P g o t0 v.cells.toList 0 cur w hg (by rw [hl]; simpa using hfit) h1
  have hs : v.cells.size = n := by rw [← hl, Array.length_toList]
  simp only [Nat.add_zero] at hst
  simp [Instr.storeAt, Instr.sureAddr, storeVar, run_sizeOf hn, hs, hst, splice]
theorem urun {P : Program} {w w' : World} {s : Sem Unit} (h : s.run P w = .ok () w') : (do s; pure .skip : Sem Next).run P w = .ok .skip w' := by
  simp [h]
def adBlk : PV → Option Nat
  | .c (.ptr b _) => some b
  | .c (.rptr _ b _ _) => some b
  | _ => none
theorem storeP_fr {N : Nat} {P : Program} {π : Pers} {ρ : Env} {s : SS} {a : Act} {w : World} (S : Sat π ρ s a w) {t : TypeId} {ad v : Option PV} {va vv : Value} (ha : ∀ p, ad = some p → DenP π ρ p va) (hv : ∀ p, v = some p → DenP π ρ p vv) {K : SS → Prop} (h : storeP P s t ad v K) :
    ∃ w' s', (Instr.storeAt t va vv).run P w = .ok () w' ∧ Sat π ρ s' a w' ∧ Step N ρ s.hp w π ρ s'.hp w' π ∧ K s' ∧ (∃ b g, (ad.bind adBlk) = some b ∧ own (ρ b) g ∧ ∀ k, k ≠ g → w'.heap[k]? = w.heap[k]?) ∧ s.hp.length ≤ s'.hp.length := by
  unfold storeP at h
  split at h
  · rename_i x p
    split at h
    · rename_i cs n hcs hn
      cases hb : Nat.beq cs.length n with
      | false => rw [hb] at h; exact h.elim
      | true =>
        rw [hb] at h
        have hcn := beq_eq hb
        obtain ⟨hc, h1⟩ := cellsP_ok (hv p rfl) hcs
        have hlen : vv.cells.toList.length = n := by rw [← all2_len hc, hcn]
        simp only [cond_true] at h
        split at h
        · rename_i b off
          split at h
          · rename_i t0 c0 hit
            cases hfit : Nat.ble (off + n) c0.length with
            | false => rw [hfit] at h; exact h.elim
            | true =>
              rw [hfit] at h
              simp only [cond_true] at h
              rw [nth_eq] at hit
              have hbl := (List.getElem?_eq_some_iff.1 hit).1
              obtain ⟨g, vs, hr, hg, hcells⟩ := S.hs.items b _ hit
              obtain ⟨g', o', n', hr', hva⟩ := ha _ rfl
              rw [hr] at hr'
              cases hr'
              simp only [Nat.zero_add] at hva
              subst hva
              have hle := Nat.le_of_ble_eq_true hfit
              rw [all2_len hcells, Array.length_toList] at hle
              have hrun := run_storeAt (P := P) hn hg hlen hle h1
              have hw : ∀ k, k < w.heap.size → ¬ own (ρ b) k → (w.setRow g (splice vs.toList off vv.cells.toList).toArray).heap[k]? = w.heap[k]? := fun k hk hne => setRow_other w g k _ (fun e => hne (by rw [e]; exact own_main hr))
              refine ⟨_, _, hrun, sat_heap S (hsat_put S.hs b _ (by simp) hw hbl ?_) (fun _ _ h => h) (fun _ _ h => h), step_put S.hs b hbl (by simp) (keep_set b _ (fun x κ hh hκ => by rw [hit] at hh; cases hh; exact hκ)) rfl rfl rfl (by simp) hw, h, ⟨b, g, rfl, own_main hr, fun k hk => setRow_other w g k _ hk⟩, by simp⟩
              refine ⟨g, (splice vs.toList off vv.cells.toList).toArray, ?_, setRow_heap w g vs _ t0 (0, 0) hg, ?_⟩
              · rw [splice_len (by rw [hcn]; exact Nat.le_of_ble_eq_true hfit)]; exact hr
              · exact all2_splice hcells hc off
          · exact h.elim
        · rename_i ty b i j
          split at h
          · rename_i e ty' xs hit
            cases hq : (decide (ty = ty') && Nat.ble (j + n) ty.sz) with
            | false => rw [hq] at h; exact h.elim
            | true =>
              rw [hq] at h
              simp only [cond_true] at h
              simp only [Bool.and_eq_true, decide_eq_true_eq] at hq
              obtain ⟨rfl, hjn⟩ := hq
              have hjn := Nat.le_of_ble_eq_true hjn
              split at h
              · rename_i x' hx'
                obtain ⟨hi, hK⟩ := h
                rw [nth_eq] at hit
                have hbl := (List.getElem?_eq_some_iff.1 hit).1
                obtain ⟨g', o', n', hr', hva⟩ := ha _ rfl
                subst hva
                rcases S.hs.items b _ hit with ⟨h2, h3⟩ | ⟨g, o, vs, hr, hg, hfit, hmx, hel⟩
                · rw [h2] at hr'; cases hr'
                · rw [hr] at hr'
                  simp only [Option.some.injEq, Prod.mk.injEq] at hr'
                  obtain ⟨rfl, rfl, rfl⟩ := hr'
                  have hmul : (i + 1) * ty.sz ≤ xs.length * ty.sz := Nat.mul_le_mul_right _ hi
                  rw [Nat.add_mul, Nat.one_mul] at hmul
                  have hle : o + i * ty.sz + j + n ≤ vs.size := by omega
                  have hrun := run_storeAt (P := P) hn hg hlen hle h1
                  have hw : ∀ k, k < w.heap.size → ¬ own (ρ b) k → (w.setRow g (splice vs.toList (o + i * ty.sz + j) vv.cells.toList).toArray).heap[k]? = w.heap[k]? := fun k hk hne => setRow_other w g k _ (fun e => hne (by rw [e]; exact own_main hr))
                  have hsl : vs.toList.length = vs.size := Array.length_toList
                  have hspl := splice_len (l := vs.toList) (n := vv.cells.toList) (o := o + i * ty.sz + j) (by omega)
                  refine ⟨_, _, hrun, sat_heap S (hsat_put S.hs b _ (by simp) hw hbl ?_) (fun _ _ h => h) (fun _ _ h => h), step_put S.hs b hbl (by simp) (keep_set b _ (fun x κ hh hκ => by rw [hit] at hh; cases hh; rw [knd_same _ xs]; exact hκ)) rfl rfl rfl (by simp) hw, hK, ⟨b, g, rfl, own_main hr, fun k hk => setRow_other w g k _ hk⟩, by simp⟩
                  refine .inr ⟨g, o, (splice vs.toList (o + i * ty.sz + j) vv.cells.toList).toArray, ?_, setRow_heap w g vs _ e (0, 0) hg, ?_, by simpa using hmx, ?_⟩
                  · rw [List.size_toArray, hspl, hsl]; exact hr
                  · rw [List.size_toArray, hspl, hsl, List.length_set]; exact hfit
                  · intro k y hk
                    rw [List.getElem?_set] at hk
                    by_cases hik : i = k
                    · subst hik
                      rw [if_pos rfl, if_pos hi] at hk
                      simp only [Option.some.injEq] at hk
                      subst hk
                      have hget : xs[i]? = some (xs.getD i ty.dft) := by rw [List.getD_eq_getElem?_getD, List.getElem?_eq_getElem hi]; rfl
                      have hrep := hel i _ hget
                      simp only
                      rw [seg_same (by omega) (by omega)]
                      obtain ⟨v1, v2, hv12, hrep', hnil⟩ := fromCV_ok (ρ := ρ) ty _ _ _ _ (all2_splice (toCV_ok (ρ := ρ) ty _ _ hrep) hc j) hx'
                      cases v2 with
                      | nil => rw [hv12, List.append_nil]; exact hrep'
                      | cons q qs => exact hnil.elim
                    · rw [if_neg hik] at hk
                      simp only
                      rw [seg_other (by omega) ?_]
                      · exact hel k y hk
                      · rcases Nat.lt_or_gt_of_ne hik with hlt | hgt
                        · have : (i + 1) * ty.sz ≤ k * ty.sz := Nat.mul_le_mul_right _ hlt
                          rw [Nat.add_mul, Nat.one_mul] at this
                          right; omega
                        · have : (k + 1) * ty.sz ≤ i * ty.sz := Nat.mul_le_mul_right _ hgt
                          rw [Nat.add_mul, Nat.one_mul] at this
                          left; omega
              · exact h.elim
          · rename_i e bx fs xs q hs hit
            cases hq : (Nat.beq ty.sz (nsz bx fs) && Nat.ble (j + n) hs.length) with
            | false => rw [hq] at h; exact h.elim
            | true =>
              rw [hq] at h
              simp only [cond_true] at h
              simp only [Bool.and_eq_true] at hq
              obtain ⟨hsz, hjn⟩ := hq
              have hsz := beq_eq hsz
              have hjn := Nat.le_of_ble_eq_true hjn
              obtain ⟨hiq, hi, hK⟩ := h
              subst hiq
              rw [nth_eq] at hit
              have hbl := (List.getElem?_eq_some_iff.1 hit).1
              obtain ⟨g', o', n', hr', hva⟩ := ha _ rfl
              subst hva
              rcases S.hs.items b _ hit with ⟨h2, h3, _⟩ | ⟨g, o, vs, Ls, hr, hg, hfit, hmx, hLl, hnd, hel⟩
              · rw [h2] at hr'; cases hr'
              · rw [hr] at hr'
                simp only [Option.some.injEq, Prod.mk.injEq] at hr'
                obtain ⟨rfl, rfl, rfl⟩ := hr'
                have hLi : i < Ls.length := by omega
                have hseg : All2 (DenC π ρ) hs (seg vs.toList (o + i * nsz bx fs) (nsz bx fs)) := by
                  rcases hel i _ _ (List.getElem?_eq_getElem hi) (List.getElem?_eq_getElem hLi) with ⟨_, _, h⟩ | ⟨hne, _⟩
                  · exact h
                  · exact absurd rfl hne
                have hmul : (i + 1) * nsz bx fs ≤ xs.length * nsz bx fs := Nat.mul_le_mul_right _ hi
                rw [Nat.add_mul, Nat.one_mul] at hmul
                have hsl : vs.toList.length = vs.size := Array.length_toList
                have hhl : hs.length = nsz bx fs := by rw [all2_len hseg, seg_len (by omega)]
                have hle : o + i * ty.sz + j + n ≤ vs.size := by rw [hsz]; omega
                have hrun := run_storeAt (P := P) hn hg hlen hle h1
                have hw : ∀ k, k < w.heap.size → ¬ own (ρ b) k → (w.setRow g (splice vs.toList (o + i * ty.sz + j) vv.cells.toList).toArray).heap[k]? = w.heap[k]? := fun k hk hne => setRow_other w g k _ (fun e => hne (by rw [e]; exact own_main hr))
                have hspl := splice_len (l := vs.toList) (n := vv.cells.toList) (o := o + i * ty.sz + j) (by omega)
                refine ⟨_, _, hrun, sat_heap S (hsat_put S.hs b _ (by simp) hw hbl ?_) (fun _ _ h => h) (fun _ _ h => h), step_put S.hs b hbl (by simp) (keep_set b _ (fun x κ hh hκ => by rw [hit] at hh; cases hh; exact hκ)) rfl rfl rfl (by simp) hw, hK, ⟨b, g, rfl, own_main hr, fun k hk => setRow_other w g k _ hk⟩, by simp⟩
                have hgL : g ∉ Ls.flatten := (List.nodup_cons.1 hnd).1
                refine .inr ⟨g, o, (splice vs.toList (o + i * ty.sz + j) vv.cells.toList).toArray, Ls, ?_, setRow_heap w g vs _ e (0, 0) hg, ?_, hmx, hLl, hnd, ?_⟩
                · rw [List.size_toArray, hspl, hsl]; exact hr
                · rw [List.size_toArray, hspl, hsl]; exact hfit
                · intro k y L hk hL
                  by_cases hik : k = i
                  · subst hik
                    rcases hel k y L hk hL with ⟨_, h5, h6⟩ | ⟨hne, _⟩
                    · refine .inl ⟨rfl, h5, ?_⟩
                      simp only
                      rw [hsz, seg_same (by omega) (by omega)]
                      exact all2_splice hseg hc j
                    · exact absurd rfl hne
                  · rcases hel k y L hk hL with ⟨h4, _⟩ | ⟨_, h5⟩
                    · exact absurd h4 hik
                    · refine .inr ⟨hik, ?_⟩
                      simp only
                      rw [hsz, seg_other (by omega) ?_]
                      · exact repN_keep (fun _ _ h => h) (fun g' hg' => setRow_other w g g' _ (fun e => hgL (by rw [← e]; exact mem_flat hL hg'))) h5
                      · rcases Nat.lt_or_gt_of_ne hik with hlt | hgt
                        · have : (k + 1) * nsz bx fs ≤ i * nsz bx fs := Nat.mul_le_mul_right _ hlt
                          rw [Nat.add_mul, Nat.one_mul] at this
                          left; omega
                        · have : (i + 1) * nsz bx fs ≤ k * nsz bx fs := Nat.mul_le_mul_right _ hgt
                          rw [Nat.add_mul, Nat.one_mul] at this
                          right; omega
          · exact h.elim
        · exact h.elim
    · exact h.elim
  · exact h.elim

theorem storeP_ok {N : Nat} {P : Program} {π : Pers} {ρ : Env} {s : SS} {a : Act} {w : World} (S : Sat π ρ s a w) {t : TypeId} {ad v : Option PV} {va vv : Value} (ha : ∀ p, ad = some p → DenP π ρ p va) (hv : ∀ p, v = some p → DenP π ρ p vv) {K : SS → Prop} (h : storeP P s t ad v K) :
    ∃ w', (Instr.storeAt t va vv).run P w = .ok () w' ∧ Out N P π ρ s w K a w' := by
  obtain ⟨w', s', h1, h2, h3, h4, _⟩ := storeP_fr (N := N) S ha hv h
  exact ⟨w', h1, π, ρ, s', h2, h3, h4⟩

/-! ### structs and slices that are written out -/
def fillC (place : Nat → Option (Nat × Nat)) (cells : List CV) : List (Nat × PV) → Option (List CV)
  | [] => some cells
  | (i, p) :: rest => match place i, cellsP p with
    | some (off, size), some cs => bif Nat.beq cs.length size && Nat.ble (off + size) cells.length then fillC place (splice cells off cs) rest else none
    | _, _ => none
theorem foldl_splice (off : Nat) : ∀ (vs : List Value) (k : Nat) (cur : Array Value), off + k + vs.length ≤ cur.size →
    ((vs.zipIdx k).foldl (fun cs p => cs.setIfInBounds (off + p.2) p.1) cur).toList = splice cur.toList (off + k) vs
  | [], k, cur, _ => by simp [splice]
  | v :: vs, k, cur, h => by
    simp only [List.length_cons] at h
    simp only [List.zipIdx_cons, List.foldl_cons]
    rw [foldl_splice off vs (k + 1) _ (by simpa using by omega)]
    have hl : cur.toList.length = cur.size := Array.length_toList
    apply List.ext_getElem?
    intro i
    rw [splice_get (by simp; omega), splice_get (by simp; omega)]
    simp only [Array.toList_setIfInBounds, List.getElem?_set, List.length_cons]
    by_cases h1 : i < off + k
    · rw [if_pos (by omega), if_pos h1, if_neg (by omega)]
    · rw [if_neg h1]
      by_cases h2 : i = off + k
      · subst h2
        rw [if_pos (by omega), if_pos rfl, if_pos (by omega), if_pos (by omega)]
        simp
      · rw [if_neg (by omega)]
        by_cases h3 : i < off + k + (vs.length + 1)
        · rw [if_pos (by omega), if_pos h3, show i - (off + k) = (i - (off + (k + 1))) + 1 by omega, List.getElem?_cons_succ]
        · rw [if_neg (by omega), if_neg h3, if_neg (by omega)]
theorem fill_ok {π : Pers} {ρ : Env} (place : Nat → Option (Nat × Nat)) : ∀ (ps : List (Nat × PV)) (us : List (Nat × Value)) (cells r : List CV) (vs : Array Value), All2 (fun p u => p.1 = u.1 ∧ DenP π ρ p.2 u.2) ps us → All2 (DenC π ρ) cells vs.toList → fillC place cells ps = some r →
    ∃ ws : Array Value, Instr.fill place vs us = some ws ∧ All2 (DenC π ρ) r ws.toList
  | [], [], cells, r, vs, _, hc, h => by simp only [fillC, Option.some.injEq] at h; subst h; exact ⟨vs, rfl, hc⟩
  | (i, p) :: ps, (i', u) :: us, cells, r, vs, hp, hc, h => by
    obtain ⟨⟨hi, hd⟩, hp'⟩ := hp
    simp only at hi hd
    subst hi
    simp only [fillC] at h
    split at h
    · rename_i off size cs hpl hcs
      cases hq : (Nat.beq cs.length size && Nat.ble (off + size) cells.length) with
      | false => rw [hq] at h; cases h
      | true =>
        rw [hq] at h
        simp only [cond_true] at h
        simp only [Bool.and_eq_true] at hq
        have e1 := beq_eq hq.1
        have e2 := Nat.le_of_ble_eq_true hq.2
        obtain ⟨hcc, h1⟩ := cellsP_ok hd hcs
        have hul : u.cells.size = size := by rw [← Array.length_toList, ← all2_len hcc, e1]
        have hvl : cells.length = vs.size := by rw [all2_len hc, Array.length_toList]
        have hsp : (u.cells.zipIdx.foldl (fun cs p => cs.setIfInBounds (off + p.2) p.1) vs).toList = splice vs.toList off u.cells.toList := by
          have := foldl_splice off u.cells.toList 0 vs (by rw [Array.length_toList]; omega)
          rw [← Array.foldl_toList, Array.toList_zipIdx]
          simpa using this
        obtain ⟨ws, hw, hr⟩ := fill_ok place ps us _ r (u.cells.zipIdx.foldl (fun cs p => cs.setIfInBounds (off + p.2) p.1) vs) hp' (by rw [hsp]; exact all2_splice hc hcc off) h
        refine ⟨ws, ?_, hr⟩
        have hnn : ¬ ((u.cells.size ≠ size || decide (off + u.cells.size > vs.size)) = true) := by simp; omega
        simp only [Instr.fill, hpl]
        rw [if_neg hnn]
        exact hw
    · cases h
  | [], _ :: _, _, _, _, hp, _, _ => hp.elim
  | _ :: _, [], _, _, _, hp, _, _ => hp.elim
def evParts (s : SS) (gs : List (Nat × Bool)) : List (Nat × Operand) → Option (List (Nat × PV))
  | [] => some []
  | (i, x) :: r => match evL s gs x, evParts s gs r with
    | some p, some ps => some ((i, p) :: ps)
    | _, _ => none
theorem evParts_ok {π : Pers} {ρ : Env} {s : SS} {a : Act} {w : World} (S : Sat π ρ s a w) {gs : List (Nat × Bool)} (hg : GH gs a.tmps) : ∀ (l : List (Nat × Operand)) (ps : List (Nat × PV)), evParts s gs l = some ps → All2 (fun p u => p.1 = u.1 ∧ DenP π ρ p.2 u.2) ps (l.map fun (i, x) => (i, a.eval x))
  | [], ps, h => by simp only [evParts, Option.some.injEq] at h; subst h; trivial
  | (i, x) :: r, ps, h => by
    simp only [evParts] at h
    split at h
    · rename_i p ps' hp hps
      cases h
      exact ⟨⟨rfl, evL_ok S hg hp⟩, evParts_ok S hg r ps' hps⟩
    · cases h
def placesOf (P : Program) : List Field → Option (List (Nat × Nat))
  | [] => some []
  | f :: fs => match szOf P f.type, placesOf P fs with
    | some n, some r => some ((f.offset, n) :: r)
    | _, _ => none
theorem placesOf_ok {P : Program} : ∀ (fs : List Field) (r : List (Nat × Nat)), placesOf P fs = some r → fs.mapM (fun f => (P.info? f.type).map fun i => (f.offset, i.size)) = some r
  | [], r, h => by simp only [placesOf, Option.some.injEq] at h; subst h; rfl
  | f :: fs, r, h => by
    simp only [placesOf] at h
    split at h
    · rename_i n r' hn hr
      cases h
      unfold szOf at hn
      split at hn
      · rename_i i hi
        simp only [Option.some.injEq] at hn
        subst hn
        simp [List.mapM_cons, hi, placesOf_ok fs r' hr]
      · cases hn
    · cases h
def buildP (P : Program) (t : TypeId) (ps : Option (List (Nat × PV))) : Option PV :=
  match ps, zeroCs P t with
  | some ps, some zc => match P.underlying t with
    | some (.struct fields) => match placesOf P fields.toList with
      | some places => match fillC (fun i => nth places i) zc ps with
        | some cs => some (.agg cs)
        | none => none
      | none => none
    | some (.array _ e) => match szOf P e with
      | some n => match fillC (fun i => some (i * n, n)) zc ps with
        | some cs => some (.agg cs)
        | none => none
      | none => none
    | _ => none
  | _, _ => none
theorem buildP_all {P : Program} {π : Pers} {ρ : Env} {t : TypeId} {ps : Option (List (Nat × PV))} {parts : Array (Nat × Value)} (hp : ∀ l, ps = some l → All2 (fun p u => p.1 = u.1 ∧ DenP π ρ p.2 u.2) l parts.toList) {r : PV} (h : buildP P t ps = some r) :
    ∃ u, (∀ w, (Instr.build t parts).run P w = .ok u w) ∧ DenP π ρ r u := by
  unfold buildP at h
  split at h
  · rename_i l zc hzc
    unfold zeroCs at hzc
    split at hzc
    · rename_i it hit
      split at hzc
      · rename_i z hz
        have hz0 := (constCs_ok (π := π) (ρ := ρ) hzc).1
        split at h
        · rename_i fields hf
          split at h
          · rename_i places hpl
            split at h
            · rename_i cs hcs
              cases h
              obtain ⟨ws, h1, h2⟩ := fill_ok _ l parts.toList _ _ z.cells (hp l rfl) hz0 hcs
              refine ⟨.agg ws, fun w => run_build w t parts ws ?_, ws.toList, by simp, h2⟩
              unfold Program.built
              simp only [hit, hf, hz, placesOf_ok _ _ hpl]
              rw [← h1]
              congr 1
              funext i
              simp [nth_eq]
            · cases h
          · cases h
        · rename_i len e hf
          split at h
          · rename_i n hn
            split at h
            · rename_i cs hcs
              cases h
              obtain ⟨ws, h1, h2⟩ := fill_ok _ l parts.toList _ _ z.cells (hp l rfl) hz0 hcs
              refine ⟨.agg ws, fun w => run_build w t parts ws ?_, ws.toList, by simp, h2⟩
              unfold szOf at hn
              split at hn
              · rename_i ie hie
                simp only [Option.some.injEq] at hn
                subst hn
                unfold Program.built
                simp only [hit, hf, hz, hie]
                exact h1
              · cases hn
            · cases h
          · cases h
        · cases h
      · cases hzc
    · cases hzc
  · cases h
theorem buildP_ok {P : Program} {π : Pers} {ρ : Env} (w : World) {t : TypeId} {ps : Option (List (Nat × PV))} {parts : Array (Nat × Value)} (hp : ∀ l, ps = some l → All2 (fun p u => p.1 = u.1 ∧ DenP π ρ p.2 u.2) l parts.toList) {r : PV} (h : buildP P t ps = some r) :
    ∃ u, (Instr.build t parts).run P w = .ok u w ∧ DenP π ρ r u := by
  obtain ⟨u, h1, h2⟩ := buildP_all hp h
  exact ⟨u, h1 w, h2⟩
/-- The operations that only read, and those that put a struct together. -/
def pureX (P : Program) (s : SS) (gs : List (Nat × Bool)) (o : Oper) : PR :=
  match o.op with
  | .build t parts => oneP (buildP P t (evParts s gs parts.toList))
  | _ => pureOp P s gs o
theorem pureX_u {P : Program} {π : Pers} {ρ : Env} {s : SS} {a : Act} {w : World} (S : Sat π ρ s a w) {gs : List (Nat × Bool)} (hg : GH gs a.tmps) {o : Oper} {ob fc : List Prop} {r : PV} (h : pureX P s gs o = some (ob, fc, r)) (ho : allP ob) :
    allP fc ∧ ∃ u, (∀ w', Alike (pz (eL s gs o) π) ρ s.hp w w' → (execOp a.eval o).run P w' = .ok (.value u) w') ∧ DenP π ρ r u := by
  unfold pureX at h
  split at h
  · rename_i t parts heq
    unfold oneP at h
    split at h
    · rename_i p hp
      cases h
      obtain ⟨u, h1, h2⟩ := buildP_all (parts := parts.map fun (i, x) => (i, a.eval x)) (fun l hl => by rw [Array.toList_map]; exact evParts_ok S hg _ l hl) hp
      refine ⟨trivial, u, fun w' _ => ?_, h2⟩
      unfold execOp
      rw [heq]
      exact vrun (h1 w')
    · cases h
  · exact pureOp_u S hg h ho
theorem pureX_ok {P : Program} {π : Pers} {ρ : Env} {s : SS} {a : Act} {w : World} (S : Sat π ρ s a w) {gs : List (Nat × Bool)} (hg : GH gs a.tmps) {o : Oper} {ob fc : List Prop} {r : PV} (h : pureX P s gs o = some (ob, fc, r)) (ho : allP ob) :
    allP fc ∧ ∃ u, (execOp a.eval o).run P w = .ok (.value u) w ∧ DenP π ρ r u := by
  obtain ⟨h1, u, h2, h3⟩ := pureX_u S hg h ho
  exact ⟨h1, u, h2 w (Alike.refl _ _ _ _), h3⟩
end Go.Proofs.Ytckijackbldkhaa.Sx
namespace Go.Proofs.Ytckijackbldkhaa.Sx
open Go
set_option linter.unusedVariables false
set_option linter.unusedSimpArgs false

theorem vw_len {α : Type} {xs : List α} {a n : Nat} (h : a + n ≤ xs.length) : (vw xs a n).length = n := by unfold vw; rw [List.length_take, List.length_drop]; omega
theorem vw_all {α : Type} (xs : List α) : vw xs 0 xs.length = xs := by simp [vw]
theorem vw_get {α : Type} {xs : List α} {a n i : Nat} {x : α} (h : (vw xs a n)[i]? = some x) : xs[a + i]? = some x := by
  unfold vw at h
  rw [List.getElem?_take] at h
  split at h
  · rwa [List.getElem?_drop] at h
  · cases h
theorem seg_seg {l : List Value} {o m i n : Nat} (h : i + n ≤ m) : seg (seg l o m) i n = seg l (o + i) n := by
  apply List.ext_getElem?
  intro k
  by_cases hk : k < n
  · rw [seg_get' hk, seg_get' hk, seg_get' (by omega)]; congr 1; omega
  · rw [List.getElem?_eq_none (by unfold seg; rw [List.length_take]; omega), List.getElem?_eq_none (by unfold seg; rw [List.length_take]; omega)]
theorem rowAt_fit {π : Pers} {t : Ty} {l : List Value} {o : Nat} {xs : List t.T} (h : RowAt π t l o xs) (hs : 0 < t.sz) (hn : xs ≠ []) : o + xs.length * t.sz ≤ l.length := by
  have hp := List.length_pos_iff.2 hn
  have hlast : xs[xs.length - 1]? = some xs[xs.length - 1] := List.getElem?_eq_getElem (by omega)
  have := rep_len t _ _ (h _ _ hlast)
  unfold seg at this
  rw [List.length_take, List.length_drop] at this
  have e : xs.length * t.sz = (xs.length - 1) * t.sz + t.sz := by
    rw [← Nat.succ_mul]; congr 1; omega
  omega
theorem rowAt_seg {π : Pers} {t : Ty} {l : List Value} {o : Nat} {xs : List t.T} (h : RowAt π t l o xs) : RowAt π t (seg l o (xs.length * t.sz)) 0 xs := by
  intro i x hi
  have hlt := (List.getElem?_eq_some_iff.1 hi).1
  have hm : (i + 1) * t.sz ≤ xs.length * t.sz := Nat.mul_le_mul_right _ hlt
  rw [Nat.add_mul, Nat.one_mul] at hm
  rw [Nat.zero_add, seg_seg (by omega)]
  exact h i x hi
theorem rowAt_vw {π : Pers} {t : Ty} {l : List Value} {o a n : Nat} {xs : List t.T} (h : RowAt π t l o xs) : RowAt π t l (o + a * t.sz) (vw xs a n) := by
  intro i x hi
  have := h _ _ (vw_get hi)
  rwa [Nat.add_mul, ← Nat.add_assoc] at this
theorem rowAt_one {π : Pers} {t : Ty} {l : List Value} {xs : List t.T} (h : RowAt π t l 0 xs) (hl : l.length = xs.length * t.sz) : ∀ u ∈ l, u.oneCell' = true := by
  intro u hu
  obtain ⟨k, hk, rfl⟩ := List.mem_iff_getElem.1 hu
  have hs : 0 < t.sz := by
    rcases Nat.eq_zero_or_pos t.sz with h0 | h0
    · rw [h0, Nat.mul_zero] at hl; omega
    · exact h0
  have hq : k / t.sz < xs.length := by rw [Nat.div_lt_iff_lt_mul hs]; omega
  have hr := h (k / t.sz) _ (List.getElem?_eq_getElem hq)
  refine rep_one t _ _ hr _ ?_
  have hm := Nat.mod_lt k hs
  have hd := Nat.div_add_mod k t.sz
  rw [Nat.mul_comm] at hd
  have : (seg l (0 + k / t.sz * t.sz) t.sz)[k % t.sz]? = some l[k] := by
    rw [seg_get' hm, show 0 + k / t.sz * t.sz + k % t.sz = k by omega]
    exact List.getElem?_eq_getElem hk
  exact List.mem_of_getElem? this
theorem rowAt_append {π : Pers} {t : Ty} {l m : List Value} {xs ys : List t.T} (h : RowAt π t l 0 xs) (h' : RowAt π t m 0 ys) (hl : l.length = xs.length * t.sz) (hm : m.length = ys.length * t.sz) (r : List Value) : RowAt π t (l ++ m ++ r) 0 (xs ++ ys) := by
  intro i x hi
  rw [Nat.zero_add]
  have hseg : ∀ {q k : Nat} {a b c : List Value}, k + q ≤ b.length → seg (a ++ b ++ c) (a.length + k) q = seg b k q := by
    intro q k a b c hh
    apply List.ext_getElem?
    intro j
    by_cases hj : j < q
    · rw [seg_get' hj, seg_get' hj, List.getElem?_append_left (by rw [List.length_append]; omega), List.getElem?_append_right (by omega)]
      congr 1; omega
    · rw [List.getElem?_eq_none (by unfold seg; rw [List.length_take]; omega), List.getElem?_eq_none (by unfold seg; rw [List.length_take]; omega)]
  by_cases hx : i < xs.length
  · rw [List.getElem?_append_left hx] at hi
    have := h i x hi
    rw [Nat.zero_add] at this
    have hm2 : (i + 1) * t.sz ≤ xs.length * t.sz := Nat.mul_le_mul_right _ hx
    rw [Nat.add_mul, Nat.one_mul] at hm2
    have e := hseg (q := t.sz) (k := i * t.sz) (a := []) (b := l) (c := m ++ r) (by omega)
    simp only [List.nil_append, List.length_nil, Nat.zero_add] at e
    rw [List.append_assoc, e]
    exact this
  · rw [List.getElem?_append_right (by omega)] at hi
    have := h' _ x hi
    rw [Nat.zero_add] at this
    have hlt := (List.getElem?_eq_some_iff.1 hi).1
    have hm2 : (i - xs.length + 1) * t.sz ≤ ys.length * t.sz := Nat.mul_le_mul_right _ hlt
    rw [Nat.add_mul, Nat.one_mul] at hm2
    have e := hseg (q := t.sz) (k := (i - xs.length) * t.sz) (a := l) (b := m) (c := r) (by omega)
    rw [show i * t.sz = l.length + (i - xs.length) * t.sz by rw [hl, ← Nat.add_mul]; congr 1; omega, e]
    exact this

def tyOf : PV → Option Ty
  | .c (.row t _) => some t
  | .c (.view t _ _ _) => some t
  | _ => none
/-- The row that a slice shows, at a type. -/
def srcRow (s : SS) (ty : Ty) : PV → Option (List Prop × List ty.T)
  | .c (.row t xs) => if h : t = ty then some ([], h ▸ xs) else none
  | .c (.view t b a n) => match nth s.hp b with
    | some (.row _ t' xs) => bif decide (t = ty) then (if h : t' = ty then some ([a + n ≤ xs.length], vw (h ▸ xs) a n) else none) else none
    | _ => none
  | .c .nils => some ([], ([] : List ty.T))
  | _ => none
theorem firstCells_at {P : Program} {size m k g o c : Nat} {w w' : World} {vs : List Value} {cur : Array Value} {e : TypeId} {f : Nat × Nat} (hw : w'.heap = w.heap) (hg : w.heap[g]? = some (.cells cur e f)) (hv : vs = seg cur.toList o (m * size)) (hl : vs.length = m * size) (hk : k ≤ m) :
    (Builtin.firstCells size k (.slice (some ⟨g, o, none⟩) m c)).run P w' = .ok (vs.take (k * size)).toArray w' := by
  refine run_firstCells_some (P := P) w' size k ⟨g, o, none⟩ m c _ (by rw [List.length_take, hl]; exact Nat.min_eq_left (Nat.mul_le_mul_right _ hk)) (fun j v hj => ?_)
  subst hv
  rw [List.getElem?_take] at hj
  split at hj
  · rw [Addr.add_lit, cell_of_row w' g _ cur e f (by rw [hw]; exact hg)]
    simpa using seg_get hj
  · cases hj
theorem srcRow_all {P : Program} {π : Pers} {ρ : Env} {s : SS} {a : Act} {w : World} (S : Sat π ρ s a w) {ty : Ty} (hsz : 0 < ty.sz) {x : PV} {v : Value} (hx : DenP π ρ x v) {ob : List Prop} {ys : List ty.T} (h : srcRow s ty x = some (ob, ys)) (ho : allP ob) :
    ∃ A c news, v = .slice A ys.length c ∧ ys.length ≤ c ∧ c ≤ maxLen ∧ news.length = ys.length * ty.sz ∧ RowAt π ty news 0 ys ∧ ∀ w' k, w'.heap = w.heap → k ≤ ys.length → (Builtin.firstCells ty.sz k v).run P w' = .ok (news.take (k * ty.sz)).toArray w' := by
  have hnil : ∀ (A : Option Addr) (c : Nat) (w' : World) (k : Nat), k ≤ 0 → (Builtin.firstCells ty.sz k (.slice A 0 c)).run P w' = .ok (([] : List Value).take (k * ty.sz)).toArray w' := by
    intro A c w' k hk
    obtain rfl : k = 0 := by omega
    cases A <;> simp [Builtin.firstCells, loadCells, loadCellsFrom]
  unfold srcRow at h
  split at h
  · rename_i t xs
    split at h
    · rename_i ht
      subst ht
      cases h
      obtain ⟨A, c, rfl, h1, h2, h3⟩ := hx
      rcases h3 with rfl | ⟨g, o, vs, rfl, h4, h5⟩
      · exact ⟨A, c, [], rfl, h1, h2, by simp, fun i x hi => by simp at hi, fun w' k _ hk => hnil A c w' k hk⟩
      · by_cases hn : xs = []
        · subst hn
          exact ⟨_, c, [], rfl, h1, h2, by simp, fun i x hi => by simp at hi, fun w' k _ hk => hnil _ c w' k hk⟩
        · obtain ⟨e, f, he⟩ := S.hs.pers.1 g vs h4
          have hra : RowAt π t vs.toList o xs := h5
          have hfit := rowAt_fit hra hsz hn
          exact ⟨_, c, seg vs.toList o (xs.length * t.sz), rfl, h1, h2, seg_len hfit, rowAt_seg hra, fun w' k hw hk => firstCells_at hw he rfl (seg_len hfit) hk⟩
    · cases h
  · rename_i t b i n
    split at h
    · rename_i e t' xs hit
      cases hd : decide (t = ty) with
      | false => rw [hd] at h; cases h
      | true =>
        rw [hd] at h
        have := of_decide_eq_true hd
        subst this
        simp only [cond_true] at h
        split at h
        · rename_i ht
          subst ht
          cases h
          obtain ⟨ho, _⟩ := ho
          have hvl := vw_len ho
          rcases hx with ⟨rfl, A, rfl⟩ | ⟨g, o, m, c, hr, h1, h2, h3, rfl⟩
          · refine ⟨A, 0, [], by rw [hvl], by rw [hvl]; exact Nat.le_refl _, by simp [maxLen], by rw [hvl]; simp, fun i x hi => ?_, fun w' k _ hk => by rw [hvl] at hk; exact hnil A 0 w' k hk⟩
            have := (List.getElem?_eq_some_iff.1 hi).1
            rw [hvl] at this; omega
          · rw [nth_eq] at hit
            rcases S.hs.items b _ hit with ⟨h4, h5⟩ | ⟨g', o', vs, h4, h5, h6, h7, h8⟩
            · rw [h4] at hr; cases hr
            · rw [h4] at hr
              simp only [Option.some.injEq, Prod.mk.injEq] at hr
              obtain ⟨rfl, rfl, rfl⟩ := hr
              have hra : RowAt π t' vs.toList (o' + i * t'.sz) (vw xs i n) := rowAt_vw h8
              have hfit : o' + i * t'.sz + (vw xs i n).length * t'.sz ≤ vs.toList.length := by
                rw [hvl, Nat.add_assoc, ← Nat.add_mul, Array.length_toList]
                exact Nat.le_trans (Nat.add_le_add_left (Nat.mul_le_mul_right _ ho) _) h6
              refine ⟨_, c, seg vs.toList (o' + i * t'.sz) ((vw xs i n).length * t'.sz), by rw [hvl], by rw [hvl]; exact h1, h2, seg_len hfit, rowAt_seg hra, fun w' k hw hk => ?_⟩
              rw [hvl] at hfit hk ⊢
              exact firstCells_at hw h5 rfl (seg_len hfit) hk
        · cases h
    · cases h
  · cases h
    simp only [DenP, DenC] at hx
    subst hx
    exact ⟨none, 0, [], rfl, Nat.le_refl _, by simp [maxLen], by simp, fun i x hi => by simp at hi, fun w' k _ hk => hnil none 0 w' k hk⟩
  · cases h

theorem srcRow_ok {P : Program} {π : Pers} {ρ : Env} {s : SS} {a : Act} {w : World} (S : Sat π ρ s a w) {ty : Ty} (hsz : 0 < ty.sz) {x : PV} {v : Value} (hx : DenP π ρ x v) {ob : List Prop} {ys : List ty.T} (h : srcRow s ty x = some (ob, ys)) (ho : allP ob) :
    ∃ A c news, v = .slice A ys.length c ∧ ys.length ≤ c ∧ c ≤ maxLen ∧ news.length = ys.length * ty.sz ∧ RowAt π ty news 0 ys ∧ ∀ w', w'.heap = w.heap → (Builtin.firstCells ty.sz ys.length v).run P w' = .ok news.toArray w' := by
  obtain ⟨A, c, news, h1, h2, h3, h4, h5, h6⟩ := srcRow_all (P := P) S hsz hx h ho
  refine ⟨A, c, news, h1, h2, h3, h4, h5, fun w' hw => ?_⟩
  have := h6 w' ys.length hw (Nat.le_refl _)
  rwa [← h4, List.take_length] at this

section
variable {P : Program} {t1 t2 ty e e2 : TypeId} {i : TypeInfo} {z : Value}
theorem run_app_room (ht : P.underlying t1 = some (.slice e)) (ht2 : P.underlying t2 = some (.slice e2)) (hi : P.info? e = some i) {g o n c m : Nat} {x : Value} {A2 : Option Addr} {c2 : Nat} {w : World} {news : List Value} {cur : Array Value} (hx : x = .slice A2 m c2)
    (hf : (Builtin.firstCells i.size m x).run P w = .ok news.toArray w) (hroom : n + m ≤ c) (hg : w.heap[g]? = some (.cells cur e (0, 0))) (hfit : o + n * i.size + news.length ≤ cur.size) (h1 : ∀ u ∈ news, u.oneCell' = true) :
    (Builtin.append_ #[t1, t2] ty #[.slice (some ⟨g, o, none⟩) n c, x]).run P w = .ok (.slice (some ⟨g, o, none⟩) (n + m) c) (w.setRow g (splice cur.toList (o + n * i.size) news).toArray) := by
  subst hx
  have hst := run_storeCells_at P g (o + n * i.size) e news 0 cur w hg (by simpa using hfit) h1
  simp only [Nat.add_zero] at hst
  simp [Builtin.append_, run_underlying ht, run_underlying ht2, sizeOf, typeInfo, hi, Builtin.lenOf, hroom, hf, Addr.add_lit, hst, splice]
theorem run_app_none (ht : P.underlying t1 = some (.slice e)) (ht2 : P.underlying t2 = some (.slice e2)) (hi : P.info? e = some i) {A : Option Addr} {n c : Nat} {x : Value} {A2 : Option Addr} {c2 : Nat} {w : World} (hx : x = .slice A2 0 c2)
    (hf : (Builtin.firstCells i.size 0 x).run P w = .ok #[] w) (hroom : n ≤ c) :
    (Builtin.append_ #[t1, t2] ty #[.slice A n c, x]).run P w = .ok (.slice A n c) w := by
  subst hx
  cases A <;> simp [Builtin.append_, run_underlying ht, run_underlying ht2, sizeOf, typeInfo, hi, Builtin.lenOf, hroom, hf, storeCells]
theorem run_app_grow (ht : P.underlying t1 = some (.slice e)) (ht2 : P.underlying t2 = some (.slice e2)) (hi : P.info? e = some i) (hz : i.zero = some z) {A : Option Addr} {n c m : Nat} {x : Value} {A2 : Option Addr} {c2 : Nat} {w : World} {news olds : List Value} (hx : x = .slice A2 m c2)
    (hf : (Builtin.firstCells i.size m x).run P w.drew = .ok news.toArray w.drew) (hfo : (Builtin.firstCells i.size n (.slice A n c)).run P w.drew = .ok olds.toArray w.drew)
    (hg : c < n + m) (h63 : n + m ≤ maxLen) (hb : (n + m) * i.bytes ≤ 140737488355328) :
    (Builtin.append_ #[t1, t2] ty #[.slice A n c, x]).run P w = .ok (.slice (some ⟨w.heap.size, 0, none⟩) (n + m) (grownCap w (n + m) c e))
      (w.drew.alloc (.cells (olds.toArray ++ news.toArray ++ Builtin.zeroCells z.cells (grownCap w (n + m) c e - (n + m))) e)) := by
  subst hx
  have hn : ¬ (n + m ≤ c) := by omega
  have h63' : ¬ (9223372036854775807 < ((n : Int) + (m : Int))) := by simp only [maxLen] at h63; omega
  have h48' : ¬ (281474976710656 < Builtin.nextslicecap (n + m) c * i.bytes) := by have := growslice_fits hg hb; omega
  simp [Builtin.append_, run_underlying ht, run_underlying ht2, sizeOf, typeInfo, zeroValue, hi, hz, Builtin.lenOf, hn, h63', h48', Question.forced, hf, hfo, newRow, grownCap]
  congr 2
  apply Array.ext'
  simp [List.append_assoc]
end
end Go.Proofs.Ytckijackbldkhaa.Sx
namespace Go.Proofs.Ytckijackbldkhaa.Sx
open Go
set_option linter.unusedVariables false
set_option linter.unusedSimpArgs false

def orTy : Option Ty → Option Ty → Option Ty | some t, _ => some t | none, o => o
def appP (P : Program) (s : SS) (t1 t2 : TypeId) (d x : Option PV) (dst : Option Nat) (K : SS → Prop) : Prop :=
  match d, x with
  | some d, some x => match P.underlying t1, P.underlying t2 with
    | some (.slice e), some (.slice _) => match P.info? e with
      | some i => match i.zero, orTy (tyOf d) (tyOf x) with
        | some z, some ty => bif Nat.beq i.size ty.sz && Nat.beq z.cells.size ty.sz && Nat.blt 0 ty.sz && Nat.blt 0 i.bytes then
            match srcRow s ty x with
            | some (ob, ys) => match d with
              | .c .nils => obl ob (ys.length * i.bytes ≤ 140737488355328 ∧ putK { s with hp := s.hp ++ [.row e ty ys] } dst (.p (.c (.view ty s.hp.length 0 ys.length))) K)
              | .c (.view t b a n) => match nth s.hp b with
                | some (.row e' t' xs) => bif Nat.beq e' e && decide (t = ty) && !(isFix ty) then
                    (if h : t' = ty then
                      obl ob (a + n ≤ xs.length ∧ (vw (h ▸ xs : List ty.T) a n ++ ys).length * i.bytes ≤ 140737488355328 ∧
                        putK { s with fr := jkF b s.fr, hp := (s.hp.map (jkH b)).set b (.row e ty (vw (h ▸ xs : List ty.T) a n ++ ys)) } dst (.p (.c (.view ty b 0 (vw (h ▸ xs : List ty.T) a n ++ ys).length))) K)
                    else False) else False
                | _ => False
              | _ => False
            | none => False
          else False
        | _, _ => False
      | none => False
    | _, _ => False
  | _, _ => False
theorem grown_ok {π : Pers} {ρ : Env} {e : TypeId} {ty : Ty} {C : List ty.T} {l : List Value} {w : World} {k cap : Nat} {zs : Array Value} (hsz : 0 < ty.sz) (hr : RowAt π ty l 0 C) (hl : l.length = C.length * ty.sz) (hz : l.length + zs.size = cap * ty.sz) (hc : C.length ≤ cap) (hm : cap ≤ maxLen) (hk : ρ k = some (w.heap.size, 0, cap * ty.sz, [])) :
    HBIs π ρ (w.drew.alloc (.cells (l.toArray ++ zs) e)) k (.row e ty C) ∧ DenC π ρ (.view ty k 0 C.length) (.slice (some ⟨w.heap.size, 0, none⟩) C.length cap) := by
  have hs : (l.toArray ++ zs).size = cap * ty.sz := by rw [Array.size_append, List.size_toArray]; exact hz
  refine ⟨.inr ⟨w.heap.size, 0, l.toArray ++ zs, by rw [hs]; exact hk, heap_alloc_new w.drew _, by rw [hs, Nat.zero_add]; exact Nat.mul_le_mul_right _ hc, Nat.le_trans hc hm, ?_⟩, .inr ⟨w.heap.size, 0, (cap * ty.sz, []), cap, hk, hc, hm, by simp, by simp⟩⟩
  intro i x hi
  have := rowAt_append (m := []) (ys := []) hr (fun i x hi => by simp at hi) hl (by simp) zs.toList i x (by simpa using hi)
  simpa using this
theorem appP_ok {N : Nat} {P : Program} {π : Pers} {ρ : Env} {s : SS} {a : Act} {w : World} (S : Sat π ρ s a w) {t1 t2 ty0 : TypeId} {d x : Option PV} {vd vx : Value} (hd : ∀ p, d = some p → DenP π ρ p vd) (hx : ∀ p, x = some p → DenP π ρ p vx) {dst : Option Nat} {K : SS → Prop} (h : appP P s t1 t2 d x dst K) :
    ∃ u w', (Builtin.append_ #[t1, t2] ty0 #[vd, vx]).run P w = .ok u w' ∧ Out N P π ρ s w K (a.put dst u) w' := by
  unfold appP at h
  split at h
  · rename_i pd px
    split at h
    · rename_i e e2 ht ht2
      split at h
      · rename_i i hi
        split at h
        · rename_i z ty hz hty
          cases hq : (Nat.beq i.size ty.sz && Nat.beq z.cells.size ty.sz && Nat.blt 0 ty.sz && Nat.blt 0 i.bytes) with
          | false => rw [hq] at h; exact h.elim
          | true =>
            rw [hq] at h
            simp only [cond_true] at h
            simp only [Bool.and_eq_true] at hq
            have hsize := beq_eq hq.1.1.1
            have hzs := beq_eq hq.1.1.2
            have hsz : 0 < ty.sz := by have := hq.1.2; simpa [Nat.blt_eq] using this
            have hby : 0 < i.bytes := by have := hq.2; simpa [Nat.blt_eq] using this
            split at h
            · rename_i ob ys hsrc
              split at h
              · obtain ⟨ho, hb, hK⟩ := obl_out h
                obtain ⟨A2, c2, news, hvx, hyc, hcm, hnl, hra, hfc⟩ := srcRow_ok (P := P) S hsz (hx _ rfl) hsrc ho
                have hvd := hd _ rfl
                simp only [DenP, DenC] at hvd
                subst hvd
                rw [← hsize] at hfc
                by_cases hy : ys = []
                · subst hy
                  have hrun := run_app_none (ty := ty0) (A := none) (n := 0) (c := 0) ht ht2 hi hvx (by have := hfc w rfl; rwa [List.eq_nil_of_length_eq_zero (show news.length = 0 by simpa using hnl)] at this) (Nat.le_refl _)
                  have H := hsat_new (w' := w) S.hs (.row e ty ([] : List ty.T)) none (Nat.le_refl _) (fun _ _ => rfl) (fun g h => h.elim) (.inl ⟨updE_same _ _ _, rfl⟩)
                  have S' := sat_heap S H (fun _ _ h => h) (upE_new S.hs none)
                  obtain ⟨s', g1, g2, g3⟩ := putK_ok (u := .slice none 0 0) (x := .c (.view ty s.hp.length 0 ([] : List ty.T).length)) S' (.inl ⟨rfl, none, rfl⟩) hK
                  refine ⟨_, _, hrun, π, _, s', g1, ?_, g2⟩
                  rw [g3]
                  refine ⟨rfl, rfl, rfl, Nat.le_refl _, fun _ _ _ => rfl, ?_, fun _ _ h => h, fun _ _ h => .inl h, keep_new _ _⟩
                  intro k g hk hr
                  simp only [List.length_append, List.length_cons, List.length_nil] at hk
                  by_cases hkb : k = s.hp.length
                  · subst hkb; rw [updE_same] at hr; exact hr.elim
                  · rw [updE_other _ _ hkb] at hr; exact .inl ⟨k, by omega, hr⟩
                · have hpos := List.length_pos_iff.2 hy
                  have hm63 : 0 + ys.length ≤ maxLen := by omega
                  have hgc := grownCap_le_maxLen w (0 + ys.length) 0 e hm63
                  have hge := grownCap_ge w (0 + ys.length) 0 e
                  have hrun := run_app_grow (ty := ty0) (A := none) (n := 0) (c := 0) (olds := []) ht ht2 hi hz hvx (hfc w.drew rfl) (by simp [Builtin.firstCells]) (by omega) hm63 (by rw [Nat.zero_add]; exact hb)
                  have hzc : news.length + (Builtin.zeroCells z.cells (grownCap w (0 + ys.length) 0 e - (0 + ys.length))).size = grownCap w (0 + ys.length) 0 e * ty.sz := by
                    rw [size_zeroCells, hzs, hnl, ← Nat.add_mul]; congr 1; omega
                  have G := grown_ok (e := e) (w := w) (k := s.hp.length) (ρ := updE ρ s.hp.length (some (w.heap.size, 0, grownCap w (0 + ys.length) 0 e * ty.sz, []))) hsz hra hnl hzc (by omega) hgc (updE_same _ _ _)
                  simp only [List.nil_append, Array.empty_append, Nat.zero_add] at hrun G
                  have H := hsat_new S.hs (.row e ty ys) (some (w.heap.size, 0, grownCap w ys.length 0 e * ty.sz, [])) (by simp) (fun g hg => heap_alloc_old w.drew _ g hg) (fun g h => by rw [own_one h]; exact ⟨Nat.le_refl _, by simp⟩) G.1
                  have S' := sat_heap S H (fun _ _ h => h) (upE_new S.hs _)
                  obtain ⟨s', g1, g2, g3⟩ := putK_ok (x := .c (.view ty s.hp.length 0 ys.length)) S' G.2 hK
                  refine ⟨_, _, hrun, π, _, s', g1, ?_, g2⟩
                  rw [g3]
                  refine ⟨rfl, rfl, rfl, by simp, fun g hg _ => heap_alloc_old w.drew _ g hg, ?_, fun _ _ h => h, fun _ _ h => .inl h, keep_new _ _⟩
                  intro k g hk hr
                  simp only [List.length_append, List.length_cons, List.length_nil] at hk
                  by_cases hkb : k = s.hp.length
                  · subst hkb; rw [updE_same] at hr; rw [own_one hr]; exact .inr (Nat.le_refl _)
                  · rw [updE_other _ _ hkb] at hr; exact .inl ⟨k, by omega, hr⟩
              · rename_i t b a0 n
                split at h
                · rename_i e' t' xs hit
                  cases hq2 : (Nat.beq e' e && decide (t = ty) && !(isFix ty)) with
                  | false => rw [hq2] at h; exact h.elim
                  | true =>
                    rw [hq2] at h
                    simp only [cond_true] at h
                    simp only [Bool.and_eq_true, decide_eq_true_eq, Bool.not_eq_true'] at hq2
                    obtain ⟨⟨he, rfl⟩, hfx⟩ := hq2
                    have he := beq_eq he
                    subst he
                    split at h
                    · rename_i ht'
                      subst ht'
                      obtain ⟨ho, han, hb, hK⟩ := obl_out h
                      simp only at hb hK
                      obtain ⟨A2, c2, news, hvx, hyc, hcm, hnl, hra, hfc⟩ := srcRow_ok (P := P) S hsz (hx _ rfl) hsrc ho
                      rw [← hsize] at hfc
                      have hvl := vw_len han
                      have hCl : (vw xs a0 n ++ ys).length = n + ys.length := by rw [List.length_append, hvl]
                      rw [nth_eq] at hit
                      have hbl := (List.getElem?_eq_some_iff.1 hit).1
                      have hne : ∀ k, k ≠ b → ∀ r, updE ρ b r k = ρ k := fun k hk r => updE_other ρ r hk
                      have hfin : ∀ (r : Option (Nat × Nat × Nat × List Nat)) (w' : World) (u : Value), w.heap.size ≤ w'.heap.size → (∀ g, g < w.heap.size → ¬ own (ρ b) g → w'.heap[g]? = w.heap[g]?) →
                          (∀ g, own r g → (own (ρ b) g ∨ w.heap.size ≤ g) ∧ g < w'.heap.size) → HBIs π (updE ρ b r) w' b (.row e' t' (vw xs a0 n ++ ys)) → DenC π (updE ρ b r) (.view t' b 0 (vw xs a0 n ++ ys).length) u → w'.os = w.os → w'.tape = w.tape → w'.output = w.output →
                          Out N P π ρ s w K (a.put dst u) w' := by
                        intro r w' u hs hw hr hit' hden e1 e2 e3
                        have H := hsat_move S.hs b (.row e' t' (vw xs a0 n ++ ys)) r hs hw hbl hr hit'
                        have S' := sat_jk (b := b) S H (fun k hk => updE_other ρ r hk)
                        obtain ⟨s', g1, g2, g3⟩ := putK_ok (x := .c (.view t' b 0 (vw xs a0 n ++ ys).length)) S' hden hK
                        refine ⟨π, _, s', g1, ?_, g2⟩
                        rw [g3]
                        refine ⟨e1, e2, e3, hs, fun g hg hn => hw g hg (hn b hbl), ?_, fun _ _ h => h, fun _ _ h => .inl h, keep_move b _ _ (fun x κ hh hκ => by rw [hit] at hh; cases hh; rw [knd_row hfx] at hκ; cases hκ)⟩
                        intro k g hk hr'
                        simp only [List.length_set, List.length_map] at hk
                        by_cases hkb : k = b
                        · subst hkb
                          rw [updE_same] at hr'
                          rcases (hr g hr').1 with hpq | hge
                          · exact .inl ⟨k, hk, hpq⟩
                          · exact .inr hge
                        · rw [updE_other _ _ hkb] at hr'; exact .inl ⟨k, hk, hr'⟩
                      have hgrow : ∀ (A : Option Addr) (c : Nat) (olds : List Value), vd = .slice A n c → c < n + ys.length → (Builtin.firstCells i.size n (.slice A n c)).run P w.drew = .ok olds.toArray w.drew → olds.length = n * t'.sz → RowAt π t' olds 0 (vw xs a0 n) → n + ys.length ≤ maxLen →
                          ∃ u w', (Builtin.append_ #[t1, t2] ty0 #[vd, vx]).run P w = .ok u w' ∧ Out N P π ρ s w K (a.put dst u) w' := by
                        intro A c olds hvd hlt hfo hol hro hm63
                        have hgc := grownCap_le_maxLen w (n + ys.length) c e' hm63
                        have hge := grownCap_ge w (n + ys.length) c e'
                        have hrun := run_app_grow (ty := ty0) (A := A) (n := n) (c := c) (olds := olds) ht ht2 hi hz hvx (hfc w.drew rfl) hfo hlt hm63 (by rw [← hCl]; exact hb)
                        have hrC : RowAt π t' (olds ++ news) 0 (vw xs a0 n ++ ys) := by
                          have := rowAt_append hro hra (by rw [hol, hvl]) hnl []
                          simpa using this
                        have hlC : (olds ++ news).length = (vw xs a0 n ++ ys).length * t'.sz := by rw [List.length_append, hol, hnl, hCl, Nat.add_mul]
                        have hzc : (olds ++ news).length + (Builtin.zeroCells z.cells (grownCap w (n + ys.length) c e' - (n + ys.length))).size = grownCap w (n + ys.length) c e' * t'.sz := by
                          rw [size_zeroCells, hzs, hlC, hCl, ← Nat.add_mul]; congr 1; omega
                        have G := grown_ok (e := e') (w := w) (k := b) (ρ := updE ρ b (some (w.heap.size, 0, grownCap w (n + ys.length) c e' * t'.sz, []))) hsz hrC hlC hzc (by rw [hCl]; exact hge) hgc (updE_same _ _ _)
                        have hobj : olds.toArray ++ news.toArray ++ Builtin.zeroCells z.cells (grownCap w (n + ys.length) c e' - (n + ys.length)) = (olds ++ news).toArray ++ Builtin.zeroCells z.cells (grownCap w (n + ys.length) c e' - (n + ys.length)) := by
                          apply Array.ext'; simp [List.append_assoc]
                        rw [hobj] at hrun
                        refine ⟨_, _, by rw [hvd]; exact hrun, ?_⟩
                        refine hfin (some (w.heap.size, 0, grownCap w (n + ys.length) c e' * t'.sz, [])) _ _ (by simp) (fun g hg _ => heap_alloc_old w.drew _ g hg) (fun g h => by rw [own_one h]; exact ⟨.inr (Nat.le_refl _), by simp⟩) G.1 ?_ rfl rfl rfl
                        have G2 := G.2
                        rw [hCl] at G2 ⊢
                        exact G2
                      rcases hd _ rfl with ⟨hn0, A, hvd⟩ | ⟨g, o, m, c, hr, h1, h2, h3, hvd⟩
                      · subst hn0
                        have hv0 : vw xs a0 0 = [] := by simp [vw]
                        by_cases hy : ys = []
                        · subst hy
                          have hrun := run_app_none (ty := ty0) (A := A) (n := 0) (c := 0) ht ht2 hi hvx (by have := hfc w rfl; rwa [List.eq_nil_of_length_eq_zero (show news.length = 0 by simpa using hnl)] at this) (Nat.le_refl _)
                          refine ⟨_, _, by rw [hvd]; exact hrun, hfin none w _ (Nat.le_refl _) (fun _ _ _ => rfl) (fun g h => h.elim) (.inl ⟨updE_same _ _ _, by rw [hv0]; rfl⟩) (.inl ⟨by rw [hv0]; rfl, A, rfl⟩) rfl rfl rfl⟩
                        · have hpos := List.length_pos_iff.2 hy
                          exact hgrow A 0 [] hvd (by omega) (by cases A <;> simp [Builtin.firstCells, loadCells, loadCellsFrom]) (by simp) (by rw [hv0]; intro i x hi; simp at hi) (by omega)
                      · rcases S.hs.items b _ hit with ⟨h4, h5⟩ | ⟨g', o', vs, h4, h5, h6, h7, h8⟩
                        · rw [h4] at hr; cases hr
                        · rw [h4] at hr
                          simp only [Option.some.injEq, Prod.mk.injEq] at hr
                          obtain ⟨rfl, rfl, rfl⟩ := hr
                          have hbase : o' + a0 * t'.sz + n * t'.sz ≤ vs.size := by
                            rw [Nat.add_assoc, ← Nat.add_mul]
                            exact Nat.le_trans (Nat.add_le_add_left (Nat.mul_le_mul_right _ (by omega)) _) h3
                          have holds : RowAt π t' (seg vs.toList (o' + a0 * t'.sz) (n * t'.sz)) 0 (vw xs a0 n) := by
                            have := rowAt_seg (rowAt_vw (a := a0) (n := n) (show RowAt π t' vs.toList o' xs from h8))
                            rwa [hvl] at this
                          by_cases hroom : n + ys.length ≤ c
                          · have hnews1 := rowAt_one hra hnl
                            have hfit : o' + a0 * t'.sz + n * i.size + news.length ≤ vs.size := by
                              rw [hsize, hnl, Nat.add_assoc, Nat.add_assoc, ← Nat.add_mul, ← Nat.add_mul]
                              exact Nat.le_trans (Nat.add_le_add_left (Nat.mul_le_mul_right _ (by omega)) _) h3
                            have hrun := run_app_room (ty := ty0) ht ht2 hi hvx (hfc w rfl) hroom h5 hfit hnews1
                            have hsl : vs.toList.length = vs.size := Array.length_toList
                            have hspl := splice_len (l := vs.toList) (n := news) (o := o' + a0 * t'.sz + n * i.size) (by rw [hsl]; exact hfit)
                            refine ⟨_, _, by rw [hvd]; exact hrun, hfin (some (g', o' + a0 * t'.sz, vs.size, [])) _ _ (by simp) (fun k hk hn => setRow_other w g' k _ (fun e => hn (by rw [e]; exact own_main h4))) (fun g h => by rw [own_one h]; exact ⟨.inl (own_main h4), by have := S.hs.lt b hbl _ (own_main h4); simpa using this⟩) ?_ ?_ rfl rfl rfl⟩
                            · refine .inr ⟨g', o' + a0 * t'.sz, (splice vs.toList (o' + a0 * t'.sz + n * i.size) news).toArray, ?_, setRow_heap w g' vs _ e' (0, 0) h5, ?_, ?_, ?_⟩
                              · rw [List.size_toArray.trans (hspl.trans hsl)]; exact updE_same _ _ _
                              · rw [List.size_toArray.trans (hspl.trans hsl), hCl, Nat.add_assoc, ← Nat.add_mul]
                                exact Nat.le_trans (Nat.add_le_add_left (Nat.mul_le_mul_right _ (by omega)) _) h3
                              · rw [hCl]; omega
                              · intro k y hk
                                simp only
                                by_cases hkn : k < n
                                · rw [List.getElem?_append_left (by omega)] at hk
                                  have hkm : (k + 1) * t'.sz ≤ n * t'.sz := Nat.mul_le_mul_right _ hkn
                                  rw [Nat.add_mul, Nat.one_mul] at hkm
                                  rw [seg_other (by rw [hsl]; exact hfit) (.inl (by rw [hsize]; omega))]
                                  have := h8 _ _ (vw_get hk)
                                  rwa [Nat.add_mul, ← Nat.add_assoc] at this
                                · rw [List.getElem?_append_right (by omega), hvl] at hk
                                  have hlt := (List.getElem?_eq_some_iff.1 hk).1
                                  have hkm : (k - n + 1) * t'.sz ≤ ys.length * t'.sz := Nat.mul_le_mul_right _ hlt
                                  rw [Nat.add_mul, Nat.one_mul] at hkm
                                  have := hra _ _ hk
                                  rw [Nat.zero_add] at this
                                  have e1 : o' + a0 * t'.sz + k * t'.sz = o' + a0 * t'.sz + n * i.size + (k - n) * t'.sz := by
                                    rw [hsize, Nat.add_assoc (o' + a0 * t'.sz), ← Nat.add_mul]; congr 2; omega
                                  rw [e1]
                                  have e2 : seg (splice vs.toList (o' + a0 * t'.sz + n * i.size) news) (o' + a0 * t'.sz + n * i.size + (k - n) * t'.sz) t'.sz = seg news ((k - n) * t'.sz) t'.sz := by
                                    apply List.ext_getElem?
                                    intro j
                                    by_cases hj : j < t'.sz
                                    · rw [seg_get' hj, seg_get' hj, splice_get (by rw [hsl]; exact hfit), if_neg (by omega), if_pos (by omega)]
                                      congr 1; omega
                                    · rw [List.getElem?_eq_none (by unfold seg; rw [List.length_take]; omega), List.getElem?_eq_none (by unfold seg; rw [List.length_take]; omega)]
                                  rw [e2]
                                  exact this
                            · refine .inr ⟨g', o' + a0 * t'.sz, (vs.size, []), c, updE_same _ _ _, by rw [hCl]; exact hroom, h2, ?_, by rw [hCl]; simp⟩
                              rw [Nat.zero_add, Nat.add_assoc, ← Nat.add_mul]; exact h3
                          · refine hgrow _ c (seg vs.toList (o' + a0 * t'.sz) (n * t'.sz)) hvd (by omega) ?_ (seg_len (by rw [Array.length_toList]; exact hbase)) holds ?_
                            · rw [hsize]
                              have hse := seg_len (l := vs.toList) (o := o' + a0 * t'.sz) (n := n * t'.sz) (by rw [Array.length_toList]; exact hbase)
                              have := firstCells_at (P := P) (w' := w.drew) (c := c) rfl h5 rfl hse (Nat.le_refl n)
                              rwa [List.take_of_length_le (Nat.le_of_eq hse)] at this
                            · have hle : (n + ys.length) * 1 ≤ (n + ys.length) * i.bytes := Nat.mul_le_mul_left _ hby
                              rw [hCl] at hb
                              simp only [maxLen]; omega
                    · exact h.elim
                · exact h.elim
              · exact h.elim
            · exact h.elim
          
        · exact h.elim
      · exact h.elim
    · exact h.elim
  · exact h.elim
end Go.Proofs.Ytckijackbldkhaa.Sx
namespace Go.Proofs.Ytckijackbldkhaa.Sx
open Go
set_option linter.unusedVariables false
set_option linter.unusedSimpArgs false

def prodTy : List (Option Ty) → Option Ty
  | [] => some .unit
  | [t] => t
  | some t :: r => match prodTy r with
    | some u => some (.prod t u)
    | none => none
  | none :: _ => none
/-- The kind of data of a type. -/
def tyId (P : Program) : Nat → TypeId → Option Ty
  | 0, _ => none
  | k + 1, t => match P.underlying t with
    | some (.int k) => some (.int k)
    | some .bool => some .bool
    | some .string => some .str
    | some (.slice e) => match tyId P k e with
      | some u => some (.row u)
      | none => none
    | some (.struct fs) => prodTy (fs.toList.map fun f => tyId P k f.type)
    | _ => none

theorem made_get {z : Array Value} {n k : Nat} (h : k < n) (hz : 0 < z.size) : (madeCells z n).toList[k]? = z[k % z.size]? := by
  have hm := Nat.mod_lt k hz
  simp [madeCells, h, hm]
theorem made_seg {z : Array Value} {m i : Nat} (hi : i < m) (hz : 0 < z.size) : seg (madeCells z (m * z.size)).toList (i * z.size) z.size = z.toList := by
  apply List.ext_getElem?
  intro k
  by_cases hk : k < z.size
  · have hm : (i + 1) * z.size ≤ m * z.size := Nat.mul_le_mul_right _ hi
    rw [Nat.add_mul, Nat.one_mul] at hm
    rw [seg_get' hk, made_get (by omega) hz, Nat.mul_comm i z.size, Nat.mul_add_mod, Nat.mod_eq_of_lt hk]
    simp
  · rw [List.getElem?_eq_none (by unfold seg; rw [List.length_take]; omega), List.getElem?_eq_none (by rw [Array.length_toList]; omega)]
/-- A new row. -/
theorem new_row {N : Nat} {π : Pers} {ρ : Env} {s : SS} {a : Act} {w : World} (S : Sat π ρ s a w) (e : TypeId) (ty : Ty) (xs : List ty.T) {vs : Array Value} {n c : Nat} (hr : RowAt π ty vs.toList 0 xs) (hn : n = xs.length) (hs : c * ty.sz ≤ vs.size) (hc : n ≤ c) (hm : c ≤ maxLen) :
    ∃ ρ', Sat π ρ' { s with hp := s.hp ++ [.row e ty xs] } a (w.alloc (.cells vs e)) ∧ Step N ρ s.hp w π ρ' (s.hp ++ [.row e ty xs]) (w.alloc (.cells vs e)) π ∧ DenC π ρ' (.view ty s.hp.length 0 n) (.slice (some ⟨w.heap.size, 0, none⟩) n c) := by
  subst hn
  have hup := upE_new S.hs (some (w.heap.size, 0, vs.size, []))
  refine ⟨updE ρ s.hp.length (some (w.heap.size, 0, vs.size, [])), ?_, step_new S.hs _ _ _ (fun g h => by rw [own_one h]; exact Nat.le_refl _), .inr ⟨w.heap.size, 0, (vs.size, []), c, updE_same _ _ _, hc, hm, by simpa using hs, by simp⟩⟩
  refine sat_heap S (hsat_new S.hs _ _ (by simp) (fun g hg => heap_alloc_old w _ g hg) (fun g h => by rw [own_one h]; exact ⟨Nat.le_refl _, by simp⟩) ?_) (fun _ _ h => h) hup
  exact .inr ⟨w.heap.size, 0, vs, updE_same _ _ _, heap_new _, by rw [Nat.zero_add]; exact Nat.le_trans (Nat.mul_le_mul_right _ hc) hs, Nat.le_trans hc hm, hr⟩

def makeP (P : Program) (s : SS) (t : TypeId) (l c : Option PV) (dst : Option Nat) (K : SS → Prop) : Prop :=
  match l, c with
  | some (.c (.int _ l)), some (.c (.int _ c)) => match P.underlying t with
    | some (.slice e) => match P.info? e, tyId P 9 e with
      | some i, some ty => match i.zero with
        | some z => match constCs z.cells.toList with
          | some zc => match fromCV ty zc with
            | some (d, []) => bif Nat.beq i.size ty.sz && Nat.beq z.cells.size ty.sz && Nat.blt 0 ty.sz && Nat.blt 0 i.bytes then
                0 ≤ l ∧ l ≤ c ∧ (i.bytes : Int) * c ≤ 281474976710656 ∧ putK { s with hp := s.hp ++ [.row e ty (List.replicate l.toNat d)] } dst (.p (.c (.view ty s.hp.length 0 l.toNat))) K
              else False
            | _ => False
          | none => False
        | none => False
      | _, _ => False
    | _ => False
  | _, _ => False
theorem makeP_ok {N : Nat} {P : Program} {π : Pers} {ρ : Env} {s : SS} {a : Act} {w : World} (S : Sat π ρ s a w) {t : TypeId} {l c : Option PV} {vl vc : Value} (hl : ∀ p, l = some p → DenP π ρ p vl) (hc : ∀ p, c = some p → DenP π ρ p vc) {dst : Option Nat} {K : SS → Prop} (h : makeP P s t l c dst K) :
    ∃ u w', (Instr.makeSlice t vl vc).run P w = .ok u w' ∧ Out N P π ρ s w K (a.put dst u) w' := by
  unfold makeP at h
  split at h
  · rename_i k1 l k2 c
    split at h
    · rename_i e ht
      split at h
      · rename_i i ty hi hty
        split at h
        · rename_i z hz
          split at h
          · rename_i zc hzc
            split at h
            · rename_i d hd
              cases hq : (Nat.beq i.size ty.sz && Nat.beq z.cells.size ty.sz && Nat.blt 0 ty.sz && Nat.blt 0 i.bytes) with
              | false => rw [hq] at h; exact h.elim
              | true =>
                rw [hq] at h
                simp only [cond_true] at h
                simp only [Bool.and_eq_true] at hq
                have hsize := beq_eq hq.1.1.1
                have hzs := beq_eq hq.1.1.2
                have hsz : 0 < ty.sz := by have := hq.1.2; simpa [Nat.blt_eq] using this
                have hby : 0 < i.bytes := by have := hq.2; simpa [Nat.blt_eq] using this
                obtain ⟨h0, hlc, hb, hK⟩ := h
                have e1 := hl _ rfl
                have e2 := hc _ rfl
                simp only [DenP, DenC] at e1 e2
                subst e1 e2
                have hcb : c ≤ 281474976710656 := by
                  have : 1 * c ≤ (i.bytes : Int) * c := Int.mul_le_mul_of_nonneg_right (by omega) (by omega)
                  omega
                have hrun := run_make (P := P) w t e i z ht hi hz k1 k2 l c h0 hlc hb (by omega)
                obtain ⟨v1, v2, hv, hrep, hnil⟩ := fromCV_ok (π := π) (ρ := ρ) ty _ _ _ _ (constCs_ok hzc).1 hd
                have hv2 : v2 = [] := by cases v2 with | nil => rfl | cons q qs => exact hnil.elim
                subst hv2
                rw [List.append_nil] at hv
                have hra : RowAt π ty (madeCells z.cells (c.toNat * i.size)).toList 0 (List.replicate l.toNat d) := by
                  intro k x hk
                  have hlt := (List.getElem?_eq_some_iff.1 hk).1
                  rw [List.length_replicate] at hlt
                  rw [List.getElem?_replicate, if_pos hlt] at hk
                  simp only [Option.some.injEq] at hk
                  subst hk
                  rw [Nat.zero_add, hsize, ← hzs, made_seg (by omega) (by omega), hv]
                  exact hrep
                obtain ⟨ρ', S', St, hden⟩ := new_row S e ty (List.replicate l.toNat d) (c := c.toNat) hra (by rw [List.length_replicate]) (by rw [size_madeCells, hsize]; exact Nat.le_refl _) (by omega) (by simp only [maxLen]; omega)
                obtain ⟨s', g1, g2, g3⟩ := putK_ok (x := .c (.view ty s.hp.length 0 l.toNat)) S' hden hK
                exact ⟨_, _, hrun, π, ρ', s', g1, by rw [g3]; exact St, g2⟩
            · exact h.elim
          · exact h.elim
        · exact h.elim
      · exact h.elim
    · exact h.elim
  · exact h.elim

def repL (zc : List CV) : Nat → List CV
  | 0 => []
  | n + 1 => zc ++ repL zc n
def rowsFrom (ty : Ty) : Nat → List CV → Option (List ty.T)
  | 0, [] => some []
  | 0, _ :: _ => none
  | n + 1, l => match fromCV ty l with
    | some (x, r) => match rowsFrom ty n r with
      | some xs => some (x :: xs)
      | none => none
    | none => none
theorem rowsFrom_ok {π : Pers} {ρ : Env} {ty : Ty} : ∀ (n : Nat) (l : List CV) (vs : List Value) (xs : List ty.T), All2 (DenC π ρ) l vs → rowsFrom ty n l = some xs → xs.length = n ∧ vs.length = n * ty.sz ∧ RowAt π ty vs 0 xs
  | 0, [], [], xs, _, h => by simp only [rowsFrom, Option.some.injEq] at h; subst h; exact ⟨rfl, by simp, fun i x hi => by simp at hi⟩
  | 0, [], _ :: _, xs, ha, h => ha.elim
  | 0, _ :: _, vs, xs, _, h => by simp [rowsFrom] at h
  | n + 1, l, vs, xs, ha, h => by
    simp only [rowsFrom] at h
    split at h
    · rename_i x r hx
      split at h
      · rename_i ys hys
        cases h
        obtain ⟨v1, v2, rfl, hrep, ha2⟩ := fromCV_ok ty _ _ _ _ ha hx
        obtain ⟨h1, h2, h3⟩ := rowsFrom_ok n r v2 ys ha2 hys
        have hl1 := rep_len ty _ _ hrep
        refine ⟨by simp [h1], by rw [List.length_append, hl1, h2, Nat.add_mul]; omega, ?_⟩
        have h1x : RowAt π ty v1 0 [x] := by
          intro i y hi
          cases i with
          | zero =>
            simp at hi; subst hi
            have : seg v1 (0 + 0 * ty.sz) ty.sz = v1 := by unfold seg; rw [Nat.zero_mul, Nat.zero_add, List.drop_zero, ← hl1, List.take_length]
            rw [this]; exact hrep
          | succ k => simp at hi
        have := rowAt_append h1x h3 (by simp [hl1]) (by rw [h1]; exact h2) []
        simpa using this
      · cases h
    · cases h
theorem repL_made {π : Pers} {ρ : Env} {zc : List CV} {z : Array Value} (hz : All2 (DenC π ρ) zc z.toList) (hp : 0 < z.size) : ∀ n, All2 (DenC π ρ) (repL zc n) (madeCells z (n * z.size)).toList
  | 0 => by simp [repL, madeCells, All2]
  | n + 1 => by
    have ih := repL_made hz hp n
    have hh := all2_append hz ih
    simp only [repL]
    have : (madeCells z ((n + 1) * z.size)).toList = z.toList ++ (madeCells z (n * z.size)).toList := by
      apply List.ext_getElem?
      intro k
      by_cases hk : k < z.size
      · rw [made_get (by rw [Nat.add_mul]; omega) hp, List.getElem?_append_left (by rw [Array.length_toList]; exact hk), Nat.mod_eq_of_lt hk]; simp
      · rw [List.getElem?_append_right (by rw [Array.length_toList]; omega), Array.length_toList]
        by_cases hk2 : k < (n + 1) * z.size
        · rw [made_get hk2 hp, made_get (by rw [Nat.add_mul] at hk2; omega) hp, Nat.mod_eq_sub_mod (by omega)]
        · rw [List.getElem?_eq_none (by rw [Array.length_toList, size_madeCells]; omega), List.getElem?_eq_none (by rw [Array.length_toList, size_madeCells]; rw [Nat.add_mul] at hk2; omega)]
    rw [this]
    exact hh
def buildSlP (P : Program) (s : SS) (t : TypeId) (len : Nat) (ps : Option (List (Nat × PV))) (dst : Option Nat) (K : SS → Prop) : Prop :=
  match ps, P.underlying t with
  | some ps, some (.slice e) => match P.info? e, tyId P 9 e with
    | some i, some ty => match i.zero with
      | some z => match constCs z.cells.toList with
        | some zc => bif Nat.beq i.size ty.sz && Nat.beq z.cells.size ty.sz && Nat.blt 0 ty.sz && Nat.ble (len * i.size) 16777216 then
            match fillC (fun k => some (k * i.size, i.size)) (repL zc len) ps with
            | some cs => match rowsFrom ty len cs with
              | some xs => putK { s with hp := s.hp ++ [.row e ty xs] } dst (.p (.c (.view ty s.hp.length 0 len))) K
              | none => False
            | none => False
          else False
        | none => False
      | none => False
    | _, _ => False
  | _, _ => False
theorem buildSlP_ok {N : Nat} {P : Program} {π : Pers} {ρ : Env} {s : SS} {a : Act} {w : World} (S : Sat π ρ s a w) {t : TypeId} {len : Nat} {ps : Option (List (Nat × PV))} {parts : Array (Nat × Value)} (hp : ∀ l, ps = some l → All2 (fun p u => p.1 = u.1 ∧ DenP π ρ p.2 u.2) l parts.toList) {dst : Option Nat} {K : SS → Prop} (h : buildSlP P s t len ps dst K) :
    ∃ u w', (Instr.buildSlice t len parts).run P w = .ok u w' ∧ Out N P π ρ s w K (a.put dst u) w' := by
  unfold buildSlP at h
  split at h
  · rename_i l e ht
    split at h
    · rename_i i ty hi hty
      split at h
      · rename_i z hz
        split at h
        · rename_i zc hzc
          cases hq : (Nat.beq i.size ty.sz && Nat.beq z.cells.size ty.sz && Nat.blt 0 ty.sz && Nat.ble (len * i.size) 16777216) with
          | false => rw [hq] at h; exact h.elim
          | true =>
            rw [hq] at h
            simp only [cond_true] at h
            simp only [Bool.and_eq_true] at hq
            have hsize := beq_eq hq.1.1.1
            have hzs := beq_eq hq.1.1.2
            have hsz : 0 < ty.sz := by have := hq.1.2; simpa [Nat.blt_eq] using this
            have hbig := Nat.le_of_ble_eq_true hq.2
            split at h
            · rename_i cs hcs
              split at h
              · rename_i xs hxs
                have hz0 := (constCs_ok (π := π) (ρ := ρ) hzc).1
                have hrl := repL_made (z := z.cells) hz0 (by omega) len
                rw [hzs, ← hsize] at hrl
                obtain ⟨ws, h1, h2⟩ := fill_ok _ l parts.toList _ _ (madeCells z.cells (len * i.size)) (hp l rfl) hrl hcs
                obtain ⟨g1, g2, g3⟩ := rowsFrom_ok len cs ws.toList xs h2 hxs
                have hws : ws.size = len * ty.sz := by rw [← Array.length_toList]; exact g2
                have hm : len ≤ maxLen := by
                  have : len * 1 ≤ len * i.size := Nat.mul_le_mul_left _ (by omega)
                  simp only [maxLen]; omega
                obtain ⟨ρ', S', St, hden⟩ := new_row S e ty xs (n := len) (c := len) g3 g1.symm (by rw [hws]; exact Nat.le_refl _) (Nat.le_refl _) hm
                obtain ⟨s', k1, k2, k3⟩ := putK_ok (x := .c (.view ty s.hp.length 0 len)) S' hden h
                refine ⟨.slice (some ⟨w.heap.size, 0, none⟩) len len, _, ?_, π, ρ', s', k1, by rw [k3]; exact St, k2⟩
                have hbig' : ¬ (16777216 < len * i.size) := by omega
                by_cases h0 : len * i.size = 0
                · have hl0 : len = 0 := by
                    rcases Nat.eq_zero_or_pos len with h | h
                    · exact h
                    · exact absurd h0 (Nat.ne_of_gt (Nat.mul_pos h (by omega)))
                  subst hl0
                  have hr0 : Array.range 0 = #[] := rfl
                  have h1' : Instr.fill (fun k => some (k * i.size, i.size)) #[] parts.toList = some ws := by simpa [madeCells, hr0] using h1
                  simp [Instr.buildSlice, run_underlying ht, sizeOf, typeInfo, hi, h1', newRow, hr0]
                · have h1' : Instr.fill (fun k => some (k * i.size, i.size)) ((Array.range (len * i.size)).map (z.cells[· % z.cells.size]!)) parts.toList = some ws := h1
                  simp [Instr.buildSlice, run_underlying ht, sizeOf, typeInfo, hi, zeroValue, hz, hbig', h0, h1', newRow]
              · exact h.elim
            · exact h.elim
        · exact h.elim
      · exact h.elim
    · exact h.elim
  · exact h.elim
end Go.Proofs.Ytckijackbldkhaa.Sx
namespace Go.Proofs.Ytckijackbldkhaa.Sx
open Go
set_option linter.unusedVariables false
set_option linter.unusedSimpArgs false

/-! ### copy -/
def copyP (P : Program) (s : SS) (t1 t2 : TypeId) (d x : Option PV) (dst : Option Nat) (K : SS → Prop) : Prop :=
  match d, x with
  | some (.c (.view t b a n)), some x => match P.underlying t1, P.underlying t2 with
    | some (.slice e), some (.slice _) => match szOf P e, nth s.hp b, srcRow s t x with
      | some sz, some (.row e' t' xs), some (ob, ys) => bif Nat.beq sz t.sz && Nat.blt 0 t.sz then
          (if h : t' = t then
            obl ob (a + n ≤ xs.length ∧ putK { s with hp := s.hp.set b (.row e' t (splice (h ▸ xs : List t.T) a (ys.take (min ys.length n)))) } dst (.p (.c (.int .i64 (min ys.length n : Nat)))) K)
          else False) else False
      | _, _, _ => False
    | _, _ => False
  | some (.c .nils), some (.c (.row _ _)) => match P.underlying t1, P.underlying t2 with
    | some (.slice e), some (.slice _) => match szOf P e with
      | some _ => putK s dst (.p (.c (.int .i64 0))) K
      | none => False
    | _, _ => False
  | _, _ => False
theorem set_same {α : Type} {l : List α} {b : Nat} {x : α} (h : l[b]? = some x) : l.set b x = l := by
  apply List.ext_getElem?
  intro k
  rw [List.getElem?_set]
  by_cases hk : b = k
  · subst hk; rw [if_pos rfl, if_pos (List.getElem?_eq_some_iff.1 h).1, h]
  · rw [if_neg hk]
theorem copyP_ok {N : Nat} {P : Program} {π : Pers} {ρ : Env} {s : SS} {a : Act} {w : World} (S : Sat π ρ s a w) {t1 t2 ty0 : TypeId} {d x : Option PV} {vd vx : Value} (hd : ∀ p, d = some p → DenP π ρ p vd) (hx : ∀ p, x = some p → DenP π ρ p vx) {dst : Option Nat} {K : SS → Prop} (h : copyP P s t1 t2 d x dst K) :
    ∃ u w', (Builtin.copy_ #[t1, t2] ty0 #[vd, vx]).run P w = .ok u w' ∧ Out N P π ρ s w K (a.put dst u) w' := by
  unfold copyP at h
  split at h
  · rename_i t b a0 n px
    split at h
    · rename_i e e2 ht ht2
      split at h
      · rename_i sz e' t' xs ob ys hsz0 hit hsrc
        cases hq : (Nat.beq sz t.sz && Nat.blt 0 t.sz) with
        | false => rw [hq] at h; exact h.elim
        | true =>
          rw [hq] at h
          simp only [cond_true] at h
          simp only [Bool.and_eq_true] at hq
          have hsize := beq_eq hq.1
          subst hsize
          have hsz : 0 < t.sz := by have := hq.2; simpa [Nat.blt_eq] using this
          split at h
          · rename_i ht'
            subst ht'
            obtain ⟨ho, han, hK⟩ := obl_out h
            simp only at hK
            obtain ⟨A2, c2, news, hvx, hyc, hcm, hnl, hra, hfc⟩ := srcRow_all (P := P) S hsz (hx _ rfl) hsrc ho
            rw [nth_eq] at hit
            have hbl := (List.getElem?_eq_some_iff.1 hit).1
            have hkl : min ys.length n ≤ ys.length := Nat.min_le_left _ _
            have hf := hfc w (min ys.length n) rfl hkl
            have htl : (news.take (min ys.length n * t'.sz)).length = min ys.length n * t'.sz := by
              rw [List.length_take, hnl]; exact Nat.min_eq_left (Nat.mul_le_mul_right _ hkl)
            have h1 : ∀ u ∈ news.take (min ys.length n * t'.sz), u.oneCell' = true := fun u hu => rowAt_one hra hnl u (List.mem_of_mem_take hu)
            rcases hd _ rfl with ⟨hn0, A, hvd⟩ | ⟨g, o, m, c, hr, h1', h2, h3, hvd⟩
            · subst hn0
              have hm0 : min ys.length 0 = 0 := by simp
              have hspl : splice xs a0 (ys.take (min ys.length 0)) = xs := by simp [splice]
              rw [hspl] at hK
              have hs : s.hp.set b (.row e' t' xs) = s.hp := set_same hit
              have H : HSat π ρ (s.hp.set b (.row e' t' xs)) w := by rw [hs]; exact S.hs
              have S' := sat_heap S H (fun _ _ h => h) (fun _ _ h => h)
              obtain ⟨s', g1, g2, g3⟩ := putK_ok (x := .c (.int .i64 ((min ys.length 0 : Nat) : Int))) (u := .int .i64 0) S' (by simp [DenP, DenC]) hK
              refine ⟨.int .i64 0, w, ?_, π, ρ, s', g1, by rw [g3]; simp only; rw [hs]; exact Step.refl _ _ _ _ _, g2⟩
              rw [hm0] at hf
              subst hvd hvx
              cases A <;> simp [Builtin.copy_, run_underlying ht, Builtin.lenOf, run_sizeOf hsz0, hf, storeCells, goInt]
            · rcases S.hs.items b _ hit with ⟨h4, h5⟩ | ⟨g', o', vs, h4, h5, h6, h7, h8⟩
              · rw [h4] at hr; cases hr
              · rw [h4] at hr
                simp only [Option.some.injEq, Prod.mk.injEq] at hr
                obtain ⟨rfl, rfl, rfl⟩ := hr
                have hsl : vs.toList.length = vs.size := Array.length_toList
                have hke : min ys.length n ≤ n := Nat.min_le_right _ _
                have hbig : (a0 + min ys.length n) * t'.sz ≤ xs.length * t'.sz := Nat.mul_le_mul_right _ (by omega)
                rw [Nat.add_mul] at hbig
                have hfit : o' + a0 * t'.sz + (news.take (min ys.length n * t'.sz)).length ≤ vs.size := by rw [htl]; omega
                have hst := run_storeCells_at P g' (o' + a0 * t'.sz) e' (news.take (min ys.length n * t'.sz)) 0 vs w h5 (by simpa using hfit) h1
                simp only [Nat.add_zero] at hst
                have hw : ∀ k, k < w.heap.size → ¬ own (ρ b) k → (w.setRow g' (splice vs.toList (o' + a0 * t'.sz) (news.take (min ys.length n * t'.sz))).toArray).heap[k]? = w.heap[k]? := fun k hk hne => setRow_other w g' k _ (fun e => hne (by rw [e]; exact own_main h4))
                have hspl := splice_len (l := vs.toList) (n := news.take (min ys.length n * t'.sz)) (o := o' + a0 * t'.sz) (by rw [hsl]; exact hfit)
                have hyt : (ys.take (min ys.length n)).length = min ys.length n := by rw [List.length_take]; omega
                have hspx := splice_len (l := xs) (n := ys.take (min ys.length n)) (o := a0) (by rw [hyt]; omega)
                have hit' : HBIs π ρ (w.setRow g' (splice vs.toList (o' + a0 * t'.sz) (news.take (min ys.length n * t'.sz))).toArray) b (.row e' t' (splice xs a0 (ys.take (min ys.length n)))) := by
                  refine .inr ⟨g', o', (splice vs.toList (o' + a0 * t'.sz) (news.take (min ys.length n * t'.sz))).toArray, ?_, setRow_heap w g' vs _ e' (0, 0) h5, ?_, by rw [hspx]; exact h7, ?_⟩
                  · rw [List.size_toArray.trans (hspl.trans hsl)]; exact h4
                  · rw [List.size_toArray.trans (hspl.trans hsl), hspx]; exact h6
                  · intro i y hi
                    simp only
                    rw [splice_get (by rw [hyt]; omega), hyt] at hi
                    by_cases hia : i < a0
                    · rw [if_pos hia] at hi
                      have : (i + 1) * t'.sz ≤ a0 * t'.sz := Nat.mul_le_mul_right _ hia
                      rw [Nat.add_mul, Nat.one_mul] at this
                      rw [seg_other (by rw [hsl]; exact hfit) (.inl (by omega))]
                      exact h8 i y hi
                    · rw [if_neg hia] at hi
                      by_cases hik : i < a0 + min ys.length n
                      · rw [if_pos hik, List.getElem?_take, if_pos (by omega)] at hi
                        have hrep := hra _ _ hi
                        rw [Nat.zero_add] at hrep
                        have hlt : i - a0 < min ys.length n := by omega
                        have : (i - a0 + 1) * t'.sz ≤ min ys.length n * t'.sz := Nat.mul_le_mul_right _ hlt
                        rw [Nat.add_mul, Nat.one_mul] at this
                        have e1 : o' + i * t'.sz = o' + a0 * t'.sz + (i - a0) * t'.sz := by rw [Nat.add_assoc, ← Nat.add_mul]; congr 2; omega
                        have e2 : seg (splice vs.toList (o' + a0 * t'.sz) (news.take (min ys.length n * t'.sz))) (o' + a0 * t'.sz + (i - a0) * t'.sz) t'.sz = seg news ((i - a0) * t'.sz) t'.sz := by
                          apply List.ext_getElem?
                          intro j
                          by_cases hj : j < t'.sz
                          · rw [seg_get' hj, seg_get' hj, splice_get (by rw [hsl]; exact hfit), if_neg (by omega), if_pos (by rw [htl]; omega), List.getElem?_take, if_pos (by omega)]
                            congr 1; omega
                          · rw [List.getElem?_eq_none (by unfold seg; rw [List.length_take]; omega), List.getElem?_eq_none (by unfold seg; rw [List.length_take]; omega)]
                        rw [e1, e2]
                        exact hrep
                      · rw [if_neg hik] at hi
                        have : (a0 + min ys.length n) * t'.sz ≤ i * t'.sz := Nat.mul_le_mul_right _ (by omega)
                        rw [Nat.add_mul] at this
                        rw [seg_other (by rw [hsl]; exact hfit) (.inr (by rw [htl]; omega))]
                        exact h8 i y hi
                have S' := sat_heap S (hsat_put S.hs b (.row e' t' (splice xs a0 (ys.take (min ys.length n)))) (by simp) hw hbl hit') (fun _ _ h => h) (fun _ _ h => h)
                obtain ⟨s', g1, g2, g3⟩ := putK_ok (x := .c (.int .i64 ((min ys.length n : Nat) : Int))) (u := .int .i64 ((min ys.length n : Nat) : Int)) S' rfl hK
                refine ⟨_, _, ?_, π, ρ, s', g1, by rw [g3]; exact step_put S.hs b hbl (by simp) (keep_set b _ (fun x κ hh hκ => by rw [hit] at hh; cases hh; rw [knd_same _ xs]; exact hκ)) rfl rfl rfl (by simp) hw, g2⟩
                subst hvd hvx
                have hmin : Nat.min ys.length n = min ys.length n := rfl
                simp [Builtin.copy_, run_underlying ht, Builtin.lenOf, run_sizeOf hsz0, hmin, hf, hst, goInt, splice]
          · exact h.elim
      · exact h.elim
    · exact h.elim
  · rename_i ty ys
    split at h
    · rename_i e e2 ht ht2
      split at h
      · rename_i sz hsz0
        have hvd := hd _ rfl
        simp only [DenP, DenC] at hvd
        obtain ⟨A, c, hvx, _⟩ := hx _ rfl
        subst hvd hvx
        obtain ⟨s', g1, g2, g3⟩ := putK_ok (x := .c (.int .i64 0)) (u := .int .i64 0) S rfl h
        refine ⟨.int .i64 0, w, ?_, π, ρ, s', g1, by rw [g3]; exact Step.refl _ _ _ _ _, g2⟩
        cases A <;> simp [Builtin.copy_, run_underlying ht, Builtin.lenOf, run_sizeOf hsz0, Builtin.firstCells, loadCells, loadCellsFrom, goInt]
      · exact h.elim
    · exact h.elim
  · exact h.elim

end Go.Proofs.Ytckijackbldkhaa.Sx
namespace Go.Proofs.Ytckijackbldkhaa.Sx
open Go
set_option linter.unusedVariables false
set_option linter.unusedSimpArgs false

/-- The place of b in m. -/
def posOf : List Nat → Nat → Option Nat
  | [], _ => none
  | a :: r, b => bif Nat.beq a b then some 0 else match posOf r b with | some k => some (k + 1) | none => none
theorem posOf_get : ∀ {m : List Nat} {b k : Nat}, posOf m b = some k → m[k]? = some b
  | [], b, k, h => by simp [posOf] at h
  | a :: r, b, k, h => by
    simp only [posOf] at h
    cases hb : Nat.beq a b with
    | true => rw [hb] at h; simp only [cond_true, Option.some.injEq] at h; subst h; rw [beq_eq hb]; rfl
    | false =>
      rw [hb] at h
      simp only [cond_false] at h
      split at h
      · rename_i j hj
        simp only [Option.some.injEq] at h
        subst h
        rw [List.getElem?_cons_succ]
        exact posOf_get hj
      · cases h
theorem posOf_none : ∀ {m : List Nat} {b : Nat}, posOf m b = none → b ∉ m
  | [], b, _ => by simp
  | a :: r, b, h => by
    simp only [posOf] at h
    cases hb : Nat.beq a b with
    | true => rw [hb] at h; cases h
    | false =>
      rw [hb] at h
      simp only [cond_false] at h
      split at h
      · cases h
      · rename_i hn
        intro hm
        rcases List.mem_cons.1 hm with e | hm
        · exact beq_ne hb e.symm
        · exact posOf_none hn hm
def renC (f : Nat → Option Nat) : CV → CV
  | .ptr b o => match f b with | some k => .ptr k o | none => .junk
  | .rptr t b i j => match f b with | some k => .rptr t k i j | none => .junk
  | .view t b a n => match f b with | some k => .view t k a n | none => .junk
  | .mp b => match f b with | some k => .mp k | none => .junk
  | c => c
def renP (f : Nat → Option Nat) : PV → PV
  | .c x => .c (renC f x)
  | .agg l => .agg (l.map (renC f))
  | .clo g l => .clo g (l.map (renC f))
def renS (f : Nat → Option Nat) : SV → SV
  | .p x => .p (renP f x)
  | .gd j w x => .gd j w (renP f x)
  | .tup l => .tup (l.map (renP f))
def renH (f : Nat → Option Nat) : HB → HB
  | .cells t cs => .cells t (cs.map (renC f))
  | .nest e bx fs xs (some (i, cs)) => .nest e bx fs xs (some (i, cs.map (renC f)))
  | it => it
theorem knd_ren (f : Nat → Option Nat) (it : HB) : knd (renH f it) = knd it := by
  cases it with
  | nest e bx fs xs hole => cases hole <;> rfl
  | _ => rfl
def renF (f : Nat → Option Nat) : List (Nat × SV) → List (Nat × SV)
  | [] => []
  | (i, v) :: r => (i, renS f v) :: renF f r
/-- The names of one environment in another one. -/
def Ren (f : Nat → Option Nat) (ρ ρ' : Env) : Prop := ∀ b k x, f b = some k → ρ b = some x → ρ' k = some x
theorem den_ren {π : Pers} {ρ ρ' : Env} {f : Nat → Option Nat} (hr : Ren f ρ ρ') (c : CV) (v : Value) (h : DenC π ρ c v) : DenC π ρ' (renC f c) v := by
  cases c with
  | ptr b o =>
    simp only [renC]
    cases hb : f b with
    | none => trivial
    | some k => obtain ⟨g, p, n, h1, h2⟩ := h; exact ⟨g, p, n, hr b k _ hb h1, h2⟩
  | rptr t b i j =>
    simp only [renC]
    cases hb : f b with
    | none => trivial
    | some k => obtain ⟨g, p, n, h1, h2⟩ := h; exact ⟨g, p, n, hr b k _ hb h1, h2⟩
  | mp b =>
    simp only [renC]
    cases hb : f b with
    | none => trivial
    | some k => obtain ⟨g, p, n, h1, h2⟩ := h; exact ⟨g, p, n, hr b k _ hb h1, h2⟩
  | view t b a n =>
    simp only [renC]
    cases hb : f b with
    | none => trivial
    | some k =>
      rcases h with h | ⟨g, o, m, c, h1, h2⟩
      · exact .inl h
      · exact .inr ⟨g, o, m, c, hr b k _ hb h1, h2⟩
  | _ => exact h
theorem denp_ren {π : Pers} {ρ ρ' : Env} {f : Nat → Option Nat} (hr : Ren f ρ ρ') (c : PV) (v : Value) (h : DenP π ρ c v) : DenP π ρ' (renP f c) v := by
  cases c with
  | c x => exact den_ren hr x v h
  | agg l => obtain ⟨vs, h1, h2⟩ := h; exact ⟨vs, h1, all2_map (den_ren hr) h2⟩
  | clo g l => obtain ⟨vs, h1, h2⟩ := h; exact ⟨vs, h1, all2_map (den_ren hr) h2⟩
theorem slot_ren {π : Pers} {ρ ρ' : Env} {f : Nat → Option Nat} (hr : Ren f ρ ρ') {T : Array Value} {i : Nat} (s : SV) (h : SlotIs π ρ T i s) : SlotIs π ρ' T i (renS f s) := by
  cases s with
  | p x => obtain ⟨v, h1, h2⟩ := h; exact ⟨v, h1, denp_ren hr x v h2⟩
  | gd j w x =>
    obtain ⟨v, h1, h2⟩ := h
    rcases h2 with ⟨h2, h3⟩ | h2
    · exact ⟨v, h1, .inl ⟨h2, denp_ren hr x v h3⟩⟩
    · exact ⟨v, h1, .inr h2⟩
  | tup l => obtain ⟨v, h1, vs, h2, h3⟩ := h; exact ⟨v, h1, vs, h2, all2_map (denp_ren hr) h3⟩
theorem lk_ren {f : Nat → Option Nat} : ∀ {fr : List (Nat × SV)} {i : Nat} {v : SV}, lk (renF f fr) i = some v → ∃ u, lk fr i = some u ∧ v = renS f u
  | [], i, v, h => by simp [renF, lk] at h
  | (j, u) :: r, i, v, h => by
    simp only [renF, lk] at h ⊢
    cases hj : Nat.beq j i
    · rw [hj] at h; exact lk_ren h
    · rw [hj] at h; simp only [cond_true, Option.some.injEq] at h; exact ⟨u, rfl, h.symm⟩
theorem once_ren {f : Nat → Option Nat} : ∀ {fr : List (Nat × SV)}, once fr = true → once (renF f fr) = true
  | [], _ => rfl
  | (j, u) :: r, h => by
    simp only [once, Bool.and_eq_true, renF] at h ⊢
    refine ⟨?_, once_ren h.2⟩
    cases hl : lk (renF f r) j with
    | none => rfl
    | some x => obtain ⟨y, hy, _⟩ := lk_ren hl; rw [hy] at h; exact absurd h.1 (by simp)

def memN : List Nat → Nat → Bool
  | [], _ => false
  | a :: r, b => Nat.beq a b || memN r b
theorem memN_iff : ∀ {m : List Nat} {b : Nat}, memN m b = true ↔ b ∈ m
  | [], b => by simp [memN]
  | a :: r, b => by
    simp only [memN, Bool.or_eq_true, List.mem_cons, memN_iff (m := r)]
    constructor
    · rintro (h | h)
      · exact .inl (beq_eq h).symm
      · exact .inr h
    · rintro (h | h)
      · subst h; exact .inl (Nat.beq_refl _)
      · exact .inr h
def nodupN : List Nat → Bool
  | [] => true
  | a :: r => !memN r a && nodupN r
theorem nodupN_ok : ∀ {m : List Nat}, nodupN m = true → ∀ (i j b : Nat), m[i]? = some b → m[j]? = some b → i = j
  | [], _, i, j, b, h, _ => by simp at h
  | a :: r, hh, i, j, b, hi, hj => by
    simp only [nodupN, Bool.and_eq_true, Bool.not_eq_true'] at hh
    have hna : a ∉ r := fun hm => by rw [memN_iff.2 hm] at hh; exact absurd hh.1 (by simp)
    cases i with
    | zero =>
      cases j with
      | zero => rfl
      | succ j =>
        simp only [List.getElem?_cons_zero, Option.some.injEq] at hi
        rw [List.getElem?_cons_succ] at hj
        subst hi
        exact absurd (List.mem_of_getElem? hj) hna
    | succ i =>
      rw [List.getElem?_cons_succ] at hi
      cases j with
      | zero =>
        simp only [List.getElem?_cons_zero, Option.some.injEq] at hj
        subst hj
        exact absurd (List.mem_of_getElem? hi) hna
      | succ j => rw [List.getElem?_cons_succ] at hj; rw [nodupN_ok hh.2 i j b hi hj]
def allLt (n : Nat) : List Nat → Bool
  | [] => true
  | a :: r => Nat.blt a n && allLt n r
theorem allLt_ok {n : Nat} : ∀ {m : List Nat}, allLt n m = true → ∀ (i b : Nat), m[i]? = some b → b < n
  | [], _, i, b, h => by simp at h
  | a :: r, hh, i, b, h => by
    simp only [allLt, Bool.and_eq_true] at hh
    cases i with
    | zero => simp only [List.getElem?_cons_zero, Option.some.injEq] at h; subst h; simpa [Nat.blt_eq] using hh.1
    | succ i => rw [List.getElem?_cons_succ] at h; exact allLt_ok hh.2 i b h
def envOf (ρ : Env) (m : List Nat) : Env := fun k => match m[k]? with | some b => ρ b | none => none
theorem ren_env (ρ : Env) (m : List Nat) : Ren (posOf m) ρ (envOf ρ m) := by
  intro b k x h hx
  simp [envOf, posOf_get h, hx]
/-- The blocks m alone, named by their places in m. -/
def subH (h : List HB) (m : List Nat) : List Nat → List HB
  | [] => []
  | b :: r => renH (posOf m) ((nth h b).getD .gone) :: subH h m r
theorem subH_get {h : List HB} {m : List Nat} : ∀ {r : List Nat} {k : Nat} {it : HB}, (subH h m r)[k]? = some it → ∃ b, r[k]? = some b ∧ it = renH (posOf m) (h[b]?.getD .gone)
  | [], k, it, hk => by simp [subH] at hk
  | b :: r, k, it, hk => by
    cases k with
    | zero => simp only [subH, List.getElem?_cons_zero, Option.some.injEq] at hk; exact ⟨b, rfl, by rw [← hk, nth_eq]⟩
    | succ k => simp only [subH, List.getElem?_cons_succ] at hk ⊢; exact subH_get hk
theorem subH_len {h : List HB} {m : List Nat} : ∀ (r : List Nat), (subH h m r).length = r.length
  | [] => rfl
  | _ :: r => by simp only [subH, List.length_cons, subH_len r]
theorem own_env {ρ : Env} {m : List Nat} {k g : Nat} (h : own (envOf ρ m k) g) : ∃ b, m[k]? = some b ∧ own (ρ b) g := by
  unfold envOf at h
  split at h
  · rename_i b hb; exact ⟨b, hb, h⟩
  · exact h.elim
theorem hsat_sub {π : Pers} {ρ : Env} {h : List HB} {w : World} (H : HSat π ρ h w) {m : List Nat} (hn : nodupN m = true) (hl : allLt h.length m = true) : HSat π (envOf ρ m) (subH h m m) w := by
  have hlen := subH_len (h := h) (m := m) m
  have hgo : ∀ k g, own (envOf ρ m k) g → ∃ b, m[k]? = some b ∧ own (ρ b) g := fun k g h => own_env h
  refine ⟨?_, ?_, ?_, ?_, H.pers, ?_⟩
  · intro k it hk
    obtain ⟨b, hb, rfl⟩ := subH_get hk
    have hbl := allLt_ok hl k b hb
    have hit := H.items b _ (List.getElem?_eq_getElem hbl)
    rw [List.getElem?_eq_getElem hbl]
    simp only [Option.getD_some]
    have he : envOf ρ m k = ρ b := by simp [envOf, hb]
    generalize h[b] = x at hit
    cases x with
    | cells t cs =>
      obtain ⟨g, vs, h1, h2, h3⟩ := hit
      exact ⟨g, vs, by rw [he]; simpa using h1, h2, all2_map (den_ren (ren_env ρ m)) h3⟩
    | row e t xs =>
      rcases hit with hit | ⟨g, o, vs, h1, h2⟩
      · exact .inl (by rw [he]; exact hit)
      · exact .inr ⟨g, o, vs, by rw [he]; exact h1, h2⟩
    | map ka kt va vt es =>
      obtain ⟨g, ms, clock, h1, h2⟩ := hit
      exact ⟨g, ms, clock, by rw [he]; exact h1, h2⟩
    | nest e bx fs xs hole =>
      rcases hit with ⟨h1, h2, h3⟩ | ⟨g, o, vs, Ls, h1, h2, h3, h4, h5, h6, h7⟩
      · subst h3; exact .inl ⟨by rw [he]; exact h1, h2, rfl⟩
      · cases hole with
        | none => exact .inr ⟨g, o, vs, Ls, by rw [he]; exact h1, h2, h3, h4, h5, h6, h7⟩
        | some q =>
          obtain ⟨j, hs⟩ := q
          exact .inr ⟨g, o, vs, Ls, by rw [he]; exact h1, h2, h3, h4, h5, h6, fun i x L hi hL => nestAt_keep (fun _ _ h => h) (fun _ _ => rfl) (fun j' hs' hh => by cases hh; exact ⟨_, rfl, all2_map (den_ren (ren_env ρ m))⟩) (fun h => by cases h) (h7 i x L hi hL)⟩
    | gone => trivial
  · intro k hk g hr
    obtain ⟨b, hb, hr'⟩ := hgo k g hr
    exact H.lt b (allLt_ok hl k b hb) g hr'
  · intro k k' g hk hk' h1 h2
    obtain ⟨b, hb, hr⟩ := hgo k g h1
    obtain ⟨b', hb', hr'⟩ := hgo k' g h2
    have := H.inj b b' g (allLt_ok hl k b hb) (allLt_ok hl k' b' hb') hr hr'
    subst this
    exact nodupN_ok hn k k' b hb hb'
  · intro k g hk hr
    obtain ⟨b, hb, hr'⟩ := hgo k g hr
    exact H.apart b g (allLt_ok hl k b hb) hr'
  · intro k hk
    rw [hlen] at hk
    simp [envOf, List.getElem?_eq_none hk]
/-- A state in which the blocks m alone are known. -/
def restrict (s : SS) (m : List Nat) : SS := { nt := s.nt, fr := renF (posOf m) s.fr, hp := subH s.hp m m }
theorem sat_restrict {π : Pers} {ρ : Env} {s : SS} {a : Act} {w : World} (S : Sat π ρ s a w) {m : List Nat} (hn : nodupN m = true) (hl : allLt s.hp.length m = true) : Sat π (envOf ρ m) (restrict s m) a w := by
  refine ⟨hsat_sub S.hs hn hl, ?_, S.df, S.nt, once_ren S.on⟩
  intro i v hi
  obtain ⟨u, hu, rfl⟩ := lk_ren hi
  exact slot_ren (ren_env ρ m) u (S.fs i u hu)
def isPre (N : Nat) (m : List Nat) : Bool := match N, m with
  | 0, _ => true
  | _ + 1, [] => false
  | N + 1, _ => pre (N + 1) 0 m
where pre : Nat → Nat → List Nat → Bool
  | 0, _, _ => true
  | _ + 1, _, [] => false
  | n + 1, i, a :: r => Nat.beq a i && pre n (i + 1) r
theorem pre_ok : ∀ {n i : Nat} {m : List Nat}, isPre.pre n i m = true → ∀ k, k < n → m[k]? = some (i + k)
  | 0, _, _, _, k, hk => by omega
  | n + 1, i, [], h, _, _ => by simp [isPre.pre] at h
  | n + 1, i, a :: r, h, k, hk => by
    simp only [isPre.pre, Bool.and_eq_true] at h
    cases k with
    | zero => rw [beq_eq h.1]; rfl
    | succ k => rw [List.getElem?_cons_succ, pre_ok h.2 k (by omega)]; congr 1; omega
theorem isPre_ok {N : Nat} {m : List Nat} (h : isPre N m = true) : ∀ k, k < N → m[k]? = some k := by
  intro k hk
  unfold isPre at h
  split at h
  · omega
  · cases h
  · have := pre_ok h k hk; rwa [Nat.zero_add] at this
theorem step_restrict {N : Nat} {π : Pers} {ρ : Env} {h : List HB} {w : World} (H : HSat π ρ h w) {m : List Nat} (hl : allLt h.length m = true) (hN : isPre N m = true) {ρ' : Env} {h' : List HB} {w' : World} {π' : Pers} (St : Step N (envOf ρ m) (subH h m m) w π ρ' h' w' π') : Step N ρ h w π ρ' h' w' π' := by
  have hlen := subH_len (h := h) (m := m) m
  have hg : ∀ k g, own (envOf ρ m k) g → ∃ b, b < h.length ∧ own (ρ b) g := by
    intro k g hk
    obtain ⟨b, hb, h1⟩ := own_env hk
    exact ⟨b, allLt_ok hl k b hb, h1⟩
  refine ⟨St.os, St.tape, St.output, St.size, ?_, ?_, St.pmono, ?_, ?_⟩
  · intro g hgl hn
    refine St.block g hgl (fun k _ hr => ?_)
    obtain ⟨b, hb, hr'⟩ := hg k _ hr
    exact hn b hb hr'
  · intro k g hk hr
    rcases St.fresh k g hk hr with ⟨j, _, hj⟩ | hge
    · obtain ⟨b, hb, hr'⟩ := hg j _ hj; exact .inl ⟨b, hb, hr'⟩
    · exact .inr hge
  · intro g vs hv
    rcases St.pfresh g vs hv with h0 | ⟨j, _, hj⟩ | hge
    · exact .inl h0
    · obtain ⟨b, hb, hr'⟩ := hg j _ hj; exact .inr (.inl ⟨b, hb, hr'⟩)
    · exact .inr (.inr hge)
  · intro k it κ hk hit hκ
    have hm := isPre_ok hN k hk
    have hsub : (subH h m m)[k]? = some (renH (posOf m) it) := by
      have hlt : k < (subH h m m).length := by rw [hlen]; exact (List.getElem?_eq_some_iff.1 hm).1
      have hget := List.getElem?_eq_getElem hlt
      obtain ⟨b, hb, he⟩ := subH_get hget
      rw [hm] at hb
      cases hb
      rw [hget, he, hit]
      rfl
    obtain ⟨e1, it', h1, k1⟩ := St.keep k _ κ hk hsub (by rw [knd_ren]; exact hκ)
    refine ⟨?_, it', h1, k1⟩
    rw [e1]
    simp [envOf, hm]
end Go.Proofs.Ytckijackbldkhaa.Sx
namespace Go.Proofs.Ytckijackbldkhaa.Sx
open Go
set_option linter.unusedVariables false
set_option linter.unusedSimpArgs false

def DenS (π : Pers) (ρ : Env) : SV → Value → Prop
  | .p x, v => DenP π ρ x v
  | .tup l, v => DenT π ρ l v
  | .gd _ _ _, _ => False
/-- What a call of f does: from the blocks h on, it comes back with r and the blocks h', and Q holds of these. -/
def FSpec (P : Program) (f : FuncId) (args : List PV) (h : List HB) (Q : SV → List HB → Prop) : Prop :=
  ∀ π ρ w vs, HSat π ρ h w → All2 (DenP π ρ) args vs → Calls P f vs.toArray w fun e w' =>
    ∃ v π' ρ' r h', e = .returned v ∧ DenS π' ρ' r v ∧ HSat π' ρ' h' w' ∧ Step h.length ρ h w π ρ' h' w' π' ∧ Q r h'
theorem FSpec.mono {P : Program} {f : FuncId} {args : List PV} {h : List HB} {Q Q' : SV → List HB → Prop} (H : FSpec P f args h Q) (hq : ∀ r h', Q r h' → Q' r h') : FSpec P f args h Q' :=
  fun π ρ w vs hs ha => (H π ρ w vs hs ha).mono fun e w' ⟨v, π', ρ', r, h', h1, h2, h3, h4, h5⟩ => ⟨v, π', ρ', r, h', h1, h2, h3, h4, hq _ _ h5⟩

/-! ### what has no rows in it says the same under whatever is lasting -/
def Ty.flat : Ty → Bool
  | .row _ => false | .prod a b => a.flat && b.flat | .fix t => t.flat | _ => true
theorem rep_flat {π π' : Pers} : ∀ (t : Ty) (x : t.T) (cs : List Value), t.flat = true → Rep π t x cs → Rep π' t x cs
  | .int k, n, cs, _, h => h
  | .bool, b, cs, _, h => h
  | .str, s, cs, _, h => h
  | .unit, _, cs, _, h => h
  | .prod a b, x, cs, hf, h => by
    simp only [Ty.flat, Bool.and_eq_true] at hf
    obtain ⟨c, d, hc, h1, h2⟩ := h
    exact ⟨c, d, hc, rep_flat a _ _ hf.1 h1, rep_flat b _ _ hf.2 h2⟩
  | .row t, xs, cs, hf, _ => by simp [Ty.flat] at hf
  | .fix t, x, cs, hf, h => rep_flat t x cs hf h
def flatC : CV → Bool | .row _ _ => false | .eptr _ _ _ _ => false | _ => true
def flatL : List CV → Bool | [] => true | c :: r => flatC c && flatL r
def flatP : PV → Bool | .c c => flatC c | .agg l => flatL l | .clo _ l => flatL l
def flatPs : List PV → Bool | [] => true | c :: r => flatP c && flatPs r
def flatS : SV → Bool | .p x => flatP x | .tup l => flatPs l | .gd _ _ _ => false
def FT.flat : FT → Bool | .pure t => t.flat | .own _ t => t.flat
def fsFlat : List FT → Bool | [] => true | f :: r => f.flat && fsFlat r
def flatH : HB → Bool | .cells _ cs => flatL cs | .row _ t _ => t.flat | .map _ kt _ vt _ => kt.flat && vt.flat | .nest _ _ fs _ none => fsFlat fs | .nest _ _ fs _ (some (_, cs)) => fsFlat fs && flatL cs | .gone => true
def flatHs : List HB → Bool | [] => true | c :: r => flatH c && flatHs r
theorem den_flat {π π' : Pers} {ρ : Env} {c : CV} {v : Value} (hf : flatC c = true) (h : DenC π ρ c v) : DenC π' ρ c v := by
  cases c with
  | row t xs => simp [flatC] at hf
  | eptr t xs i j => simp [flatC] at hf
  | _ => exact h
theorem all2_flat {π π' : Pers} {ρ : Env} : ∀ {l : List CV} {vs : List Value}, flatL l = true → All2 (DenC π ρ) l vs → All2 (DenC π' ρ) l vs
  | [], [], _, _ => trivial
  | c :: l, v :: vs, hf, h => by simp only [flatL, Bool.and_eq_true] at hf; exact ⟨den_flat hf.1 h.1, all2_flat hf.2 h.2⟩
  | [], _ :: _, _, h => h.elim
  | _ :: _, [], _, h => h.elim
theorem denp_flat {π π' : Pers} {ρ : Env} {c : PV} {v : Value} (hf : flatP c = true) (h : DenP π ρ c v) : DenP π' ρ c v := by
  cases c with
  | c x => exact den_flat hf h
  | agg l => obtain ⟨vs, h1, h2⟩ := h; exact ⟨vs, h1, all2_flat hf h2⟩
  | clo f l => obtain ⟨vs, h1, h2⟩ := h; exact ⟨vs, h1, all2_flat hf h2⟩
theorem all2_flatP {π π' : Pers} {ρ : Env} : ∀ {l : List PV} {vs : List Value}, flatPs l = true → All2 (DenP π ρ) l vs → All2 (DenP π' ρ) l vs
  | [], [], _, _ => trivial
  | c :: l, v :: vs, hf, h => by simp only [flatPs, Bool.and_eq_true] at hf; exact ⟨denp_flat hf.1 h.1, all2_flatP hf.2 h.2⟩
  | [], _ :: _, _, h => h.elim
  | _ :: _, [], _, h => h.elim
theorem dens_flat {π π' : Pers} {ρ : Env} {r : SV} {v : Value} (hf : flatS r = true) (h : DenS π ρ r v) : DenS π' ρ r v := by
  cases r with
  | p x => exact denp_flat hf h
  | tup l => obtain ⟨vs, h1, h2⟩ := h; exact ⟨vs, h1, all2_flatP hf h2⟩
  | gd j b x => exact h.elim
theorem ent_flat {π π' : Pers} {ag : Bool} {t : Ty} {x : t.T} {v : Value} (hf : t.flat = true) (h : EntIs π ag t x v) : EntIs π' ag t x v := by
  obtain ⟨cs, h1, h2⟩ := h
  exact ⟨cs, rep_flat t x cs hf h1, h2⟩
theorem repF_flat {π π' : Pers} {w : World} : ∀ (fs : List FT) (x : FsT fs) (cs : List Value) (L : List Nat), fsFlat fs = true → RepF π w fs x cs L → RepF π' w fs x cs L
  | [], _, _, _, _, h => h
  | .pure t :: r, x, cs, L, hf, ⟨c, d, h1, h2, h3⟩ => by
    simp only [fsFlat, FT.flat, Bool.and_eq_true] at hf
    exact ⟨c, d, h1, rep_flat t _ _ hf.1 h2, repF_flat r x.2 d L hf.2 h3⟩
  | .own e t :: r, x, cs, L, hf, ⟨v, d, l, L', h1, h2, h3, h4⟩ => by
    simp only [fsFlat, FT.flat, Bool.and_eq_true] at hf
    refine ⟨v, d, l, L', h1, h2, ?_, repF_flat r x.2 d L' hf.2 h4⟩
    rcases h3 with h3 | ⟨g, o, vs, c, a1, a2, a3, a4, a5, a6, a7⟩
    · exact .inl h3
    · exact .inr ⟨g, o, vs, c, a1, a2, a3, a4, a5, a6, fun i x hi => rep_flat t x _ hf.1 (a7 i x hi)⟩
theorem repN_flat {π π' : Pers} {w : World} {bx : Option TypeId} {fs : List FT} {x : FsT fs} {cs : List Value} {L : List Nat} (hf : fsFlat fs = true) (h : RepN π w bx fs x cs L) : RepN π' w bx fs x cs L := by
  cases bx with
  | none => exact repF_flat fs x cs L hf h
  | some T =>
    obtain ⟨g, vs, L', h1, h2, h3, h4⟩ := h
    exact ⟨g, vs, L', h1, h2, h3, repF_flat fs x _ L' hf h4⟩
theorem hb_flat {π π' : Pers} {ρ : Env} {w : World} {k : Nat} {it : HB} (hf : flatH it = true) (h : HBIs π ρ w k it) : HBIs π' ρ w k it := by
  cases it with
  | cells t cs => obtain ⟨g, vs, h1, h2, h3⟩ := h; exact ⟨g, vs, h1, h2, all2_flat hf h3⟩
  | row e t xs =>
    rcases h with h | ⟨g, o, vs, h1, h2, h3, h4, h5⟩
    · exact .inl h
    · exact .inr ⟨g, o, vs, h1, h2, h3, h4, fun i x hi => rep_flat t x _ hf (h5 i x hi)⟩
  | map ka kt va vt es =>
    simp only [flatH, Bool.and_eq_true] at hf
    obtain ⟨g, ms, clock, h1, h2, h3⟩ := h
    exact ⟨g, ms, clock, h1, h2, all2_imp (fun a b h => ⟨ent_flat hf.1 h.1, ent_flat hf.2 h.2⟩) h3⟩
  | nest e bx fs xs hole =>
    rcases h with h | ⟨g, o, vs, Ls, h1, h2, h3, h4, h5, h6, h7⟩
    · exact .inl h
    · refine .inr ⟨g, o, vs, Ls, h1, h2, h3, h4, h5, h6, fun i x L hi hL => ?_⟩
      cases hole with
      | none => exact repN_flat hf (h7 i x L hi hL)
      | some q =>
        obtain ⟨j, hs⟩ := q
        simp only [flatH, Bool.and_eq_true] at hf
        rcases h7 i x L hi hL with ⟨a1, a2, a3⟩ | ⟨a1, a2⟩
        · exact .inl ⟨a1, a2, all2_flat hf.2 a3⟩
        · exact .inr ⟨a1, repN_flat hf.1 a2⟩
  | gone => trivial
theorem flatHs_get : ∀ {h : List HB} {k : Nat} {it : HB}, flatHs h = true → h[k]? = some it → flatH it = true
  | [], k, it, _, hk => by simp at hk
  | x :: r, 0, it, hf, hk => by simp at hk; subst hk; simp only [flatHs, Bool.and_eq_true] at hf; exact hf.1
  | x :: r, k + 1, it, hf, hk => by simp only [flatHs, Bool.and_eq_true] at hf; rw [List.getElem?_cons_succ] at hk; exact flatHs_get hf.2 hk
theorem hb_ren {π : Pers} {ρ ρ' : Env} {w w' : World} {f : Nat → Option Nat} {j k : Nat} (hr : Ren f ρ ρ') (hk : ρ' k = ρ j) (hw : ∀ g, own (ρ j) g → w'.heap[g]? = w.heap[g]?) {it : HB} (h : HBIs π ρ w j it) : HBIs π ρ' w' k (renH f it) := by
  cases it with
  | cells t cs =>
    obtain ⟨g, vs, h1, h2, h3⟩ := h
    exact ⟨g, vs, by rw [hk]; simpa using h1, by rw [hw g (own_main h1)]; exact h2, all2_map (den_ren hr) h3⟩
  | row e t xs =>
    rcases h with h | ⟨g, o, vs, h1, h2, h3⟩
    · exact .inl (by rw [hk]; exact h)
    · exact .inr ⟨g, o, vs, by rw [hk]; exact h1, by rw [hw g (own_main h1)]; exact h2, h3⟩
  | map ka kt va vt es =>
    obtain ⟨g, ms, clock, h1, h2, h3⟩ := h
    exact ⟨g, ms, clock, by rw [hk]; exact h1, by rw [hw g (own_main h1)]; exact h2, h3⟩
  | nest e bx fs xs hole =>
    rcases h with ⟨h1, h2, h3⟩ | ⟨g, o, vs, Ls, h1, h2, h3, h4, h5, h6, h7⟩
    · subst h3; exact .inl ⟨by rw [hk]; exact h1, h2, rfl⟩
    · have hL' : ∀ {i : Nat} {L : List Nat}, Ls[i]? = some L → ∀ g, g ∈ L → w'.heap[g]? = w.heap[g]? := fun hL g hg => hw g (by rw [h1]; exact .inr (mem_flat hL hg))
      cases hole with
      | none => exact .inr ⟨g, o, vs, Ls, by rw [hk]; exact h1, by rw [hw g (own_main h1)]; exact h2, h3, h4, h5, h6, fun i x L hi hL => nestAt_keep (fun _ _ h => h) (hL' hL) (fun j hs hh => by cases hh) (fun _ => rfl) (h7 i x L hi hL)⟩
      | some q =>
        obtain ⟨i0, hs⟩ := q
        exact .inr ⟨g, o, vs, Ls, by rw [hk]; exact h1, by rw [hw g (own_main h1)]; exact h2, h3, h4, h5, h6, fun i x L hi hL => nestAt_keep (fun _ _ h => h) (hL' hL) (fun j' hs' hh => by cases hh; exact ⟨_, rfl, all2_map (den_ren hr)⟩) (fun h => by cases h) (h7 i x L hi hL)⟩
  | gone => trivial
theorem dens_ren {π : Pers} {ρ ρ' : Env} {f : Nat → Option Nat} (hr : Ren f ρ ρ') {r : SV} {v : Value} (h : DenS π ρ r v) : DenS π ρ' (renS f r) v := by
  cases r with
  | p x => exact denp_ren hr x v h
  | tup l => obtain ⟨vs, h1, h2⟩ := h; exact ⟨vs, h1, all2_map (denp_ren hr) h2⟩
  | gd j b x => exact h.elim

/-! ### behind a call -/
def backN (n0 : Nat) (m : List Nat) (j : Nat) : Option Nat := match nth m j with | some b => some b | none => some (n0 + (j - m.length))
def aftN (h : List HB) (m : List Nat) (b : Nat) : Option Nat := bif memN m b then (match nth h b with | some (.cells _ _) => some b | some (.map _ _ _ _ _) => some b | some (.row _ (.fix _) _) => some b | _ => none) else some b
def mrgE (n0 : Nat) (m : List Nat) (nl : Nat) (ρ ρ' : Env) : Env := fun k =>
  if k < n0 then (match posOf m k with | some j => ρ' j | none => ρ k) else if k < n0 + (nl - m.length) then ρ' (m.length + (k - n0)) else none
/-- The old blocks as they are behind the call: from place i on. -/
def mrgO (h h' : List HB) (m : List Nat) : Nat → List HB → List HB
  | _, [] => []
  | i, it :: r => (match posOf m i with | some j => renH (backN h.length m) ((nth h' j).getD .gone) | none => renH (aftN h m) it) :: mrgO h h' m (i + 1) r
def mrgH (h h' : List HB) (m : List Nat) : List HB := mrgO h h' m 0 h ++ (h'.drop m.length).map (renH (backN h.length m))
theorem mrgO_len {h h' : List HB} {m : List Nat} : ∀ (r : List HB) (i : Nat), (mrgO h h' m i r).length = r.length
  | [], _ => rfl
  | _ :: r, i => by simp only [mrgO, List.length_cons, mrgO_len r]
theorem mrgO_get {h h' : List HB} {m : List Nat} : ∀ {r : List HB} {i k : Nat} {it : HB}, (mrgO h h' m i r)[k]? = some it → ∃ x, r[k]? = some x ∧ it = (match posOf m (i + k) with | some j => renH (backN h.length m) ((nth h' j).getD .gone) | none => renH (aftN h m) x)
  | [], i, k, it, hk => by simp [mrgO] at hk
  | x :: r, i, k, it, hk => by
    cases k with
    | zero => simp only [mrgO, List.getElem?_cons_zero, Option.some.injEq] at hk; exact ⟨x, rfl, hk.symm⟩
    | succ k =>
      simp only [mrgO, List.getElem?_cons_succ] at hk ⊢
      obtain ⟨y, h1, h2⟩ := mrgO_get hk
      exact ⟨y, h1, by rw [h2, show i + 1 + k = i + (k + 1) by omega]⟩
theorem posOf_of {m : List Nat} (hn : nodupN m = true) {j b : Nat} (h : m[j]? = some b) : posOf m b = some j := by
  cases hp : posOf m b with
  | none => exact absurd (List.mem_of_getElem? h) (posOf_none hp)
  | some k => rw [nodupN_ok hn k j b (posOf_get hp) h]
section
variable {π π' π2 : Pers} {ρ ρ' : Env} {h h' : List HB} {w w' : World} {m : List Nat}
theorem mrg_loc (hn : nodupN m = true) (hl : allLt h.length m = true) {j b : Nat} (hj : m[j]? = some b) : mrgE h.length m h'.length ρ ρ' b = ρ' j := by
  simp [mrgE, allLt_ok hl j b hj, posOf_of hn hj]
theorem mrg_out {b : Nat} (hb : b < h.length) (hm : posOf m b = none) : mrgE h.length m h'.length ρ ρ' b = ρ b := by
  simp [mrgE, hb, hm]
theorem mrg_new {t : Nat} (ht : m.length + t < h'.length) : mrgE h.length m h'.length ρ ρ' (h.length + t) = ρ' (m.length + t) := by
  have h1 : ¬ (h.length + t < h.length) := by omega
  have h2 : h.length + t < h.length + (h'.length - m.length) := by omega
  simp only [mrgE, if_neg h1, if_pos h2]
  congr 1; omega
theorem ren_back (hn : nodupN m = true) (hl : allLt h.length m = true) (H' : HSat π' ρ' h' w') : Ren (backN h.length m) ρ' (mrgE h.length m h'.length ρ ρ') := by
  intro j k x hk hx
  have hjl : j < h'.length := by
    rcases Nat.lt_or_ge j h'.length with h | h
    · exact h
    · rw [H'.out j h] at hx; cases hx
  unfold backN at hk
  split at hk
  · rename_i b hb
    rw [nth_eq] at hb
    simp only [Option.some.injEq] at hk
    subst hk
    rw [mrg_loc hn hl hb]; exact hx
  · rename_i hb
    rw [nth_eq] at hb
    simp only [Option.some.injEq] at hk
    subst hk
    have hj : m.length ≤ j := List.getElem?_eq_none_iff.1 hb
    rw [mrg_new (by omega), show m.length + (j - m.length) = j by omega]; exact hx
theorem ren_aft (H : HSat π ρ h w) (hn : nodupN m = true) (St : Step m.length (envOf ρ m) (subH h m m) w π2 ρ' h' w' π') : Ren (aftN h m) ρ (mrgE h.length m h'.length ρ ρ') := by
  intro b k x hk hx
  have hb : b < h.length := by
    rcases Nat.lt_or_ge b h.length with h | h
    · exact h
    · rw [H.out b h] at hx; cases hx
  unfold aftN at hk
  cases hm : memN m b with
  | false =>
    rw [hm] at hk
    simp only [cond_false, Option.some.injEq] at hk
    subst hk
    have hp : posOf m b = none := by
      cases hp : posOf m b with
      | none => rfl
      | some j => have := memN_iff.2 (List.mem_of_getElem? (posOf_get hp)); rw [hm] at this; cases this
    rw [mrg_out hb hp]; exact hx
  | true =>
    rw [hm] at hk
    simp only [cond_true] at hk
    have key : ∀ it κ, nth h b = some it → knd it = some κ → mrgE h.length m h'.length ρ ρ' b = some x := by
      intro it κ hit hκ
      rw [nth_eq] at hit
      obtain ⟨j, hj⟩ := List.mem_iff_getElem?.1 (memN_iff.1 hm)
      have hlen := subH_len (h := h) (m := m) m
      have hjl := (List.getElem?_eq_some_iff.1 hj).1
      have hsub : (subH h m m)[j]? = some (renH (posOf m) it) := by
        have hlt : j < (subH h m m).length := by rw [hlen]; exact hjl
        have hget := List.getElem?_eq_getElem hlt
        obtain ⟨b', hb', he⟩ := subH_get hget
        rw [hj] at hb'
        cases hb'
        rw [hget, he, hit]
        rfl
      obtain ⟨e1, _⟩ := St.keep j _ κ hjl hsub (by rw [knd_ren]; exact hκ)
      have hp := posOf_of hn hj
      simp only [mrgE, if_pos hb, hp, e1, envOf, hj]
      exact hx
    split at hk
    · rename_i hit
      cases hk
      exact key _ _ hit rfl
    · rename_i hit
      cases hk
      exact key _ _ hit rfl
    · rename_i hit
      cases hk
      exact key _ _ hit rfl
    · cases hk
/-- The blocks behind a call. πn: what lasts now. -/
theorem hsat_mrg {πn : Pers} (H : HSat π ρ h w) (hn : nodupN m = true) (hl : allLt h.length m = true) (St : Step m.length (envOf ρ m) (subH h m m) w π2 ρ' h' w' π') (H' : HSat πn ρ' h' w') (hml : m.length ≤ h'.length)
    (hp : ∀ g vs, π g = some vs → πn g = some vs) (hpf : ∀ g vs, πn g = some vs → π g = some vs ∨ (∃ j, j < m.length ∧ own (envOf ρ m j) g) ∨ w.heap.size ≤ g) :
    HSat πn (mrgE h.length m h'.length ρ ρ') (mrgH h h' m) w' := by
  have hlen := subH_len (h := h) (m := m) m
  have hR1 := ren_back (ρ := ρ) hn hl H'
  have hR2 := ren_aft H hn St
  have hmo := mrgO_len (h := h) (h' := h') (m := m) h 0
  have hlocal : ∀ j g, own (envOf ρ m j) g → ∃ b, m[j]? = some b ∧ own (ρ b) g := fun j g h => own_env h
  -- an outer block is none of the local ones
  have hsep : ∀ k g, k < h.length → posOf m k = none → own (ρ k) g → (∀ j, ¬ own (envOf ρ m j) g) ∧ w'.heap[g]? = w.heap[g]? := by
    intro k g hk hpk hr
    have h1 : ∀ j, ¬ own (envOf ρ m j) g := by
      intro j hj
      obtain ⟨b, hb, hrb⟩ := hlocal j g hj
      have := H.inj k b g hk (allLt_ok hl j b hb) hr hrb
      subst this
      exact posOf_none hpk (List.mem_of_getElem? hb)
    exact ⟨h1, St.block g (H.lt k hk g hr) (fun j _ => h1 j)⟩
  have hnew : ∀ k, k < (mrgH h h' m).length → (∃ b, k = b ∧ b < h.length ∧ posOf m b = none) ∨ (∃ j, j < h'.length ∧ mrgE h.length m h'.length ρ ρ' k = ρ' j ∧ (mrgH h h' m)[k]? = some (renH (backN h.length m) (h'[j]?.getD .gone)) ∧ (posOf m k = some j ∧ k < h.length ∨ k = h.length + (j - m.length) ∧ m.length ≤ j)) := by
    intro k hk
    unfold mrgH at hk
    rw [List.length_append, hmo, List.length_map, List.length_drop] at hk
    by_cases hkl : k < h.length
    · cases hpk : posOf m k with
      | none => exact .inl ⟨k, rfl, hkl, hpk⟩
      | some j =>
        right
        have hj := posOf_get hpk
        have hjl := (List.getElem?_eq_some_iff.1 hj).1
        refine ⟨j, by omega, mrg_loc hn hl hj, ?_, .inl ⟨rfl, hkl⟩⟩
        unfold mrgH
        rw [List.getElem?_append_left (by rw [hmo]; exact hkl)]
        have hlt : k < (mrgO h h' m 0 h).length := by rw [hmo]; exact hkl
        obtain ⟨x, _, he⟩ := mrgO_get (List.getElem?_eq_getElem hlt)
        rw [List.getElem?_eq_getElem hlt, he, Nat.zero_add, hpk]
        simp only [nth_eq]
    · right
      refine ⟨m.length + (k - h.length), by omega, ?_, ?_, .inr ⟨by omega, by omega⟩⟩
      · have := mrg_new (ρ := ρ) (ρ' := ρ') (h := h) (h' := h') (m := m) (t := k - h.length) (by omega)
        rw [show h.length + (k - h.length) = k by omega] at this
        exact this
      · unfold mrgH
        rw [List.getElem?_append_right (by rw [hmo]; omega), hmo, List.getElem?_map, List.getElem?_drop]
        have hlt : m.length + (k - h.length) < h'.length := by omega
        rw [List.getElem?_eq_getElem hlt]
        rfl
  have hout : ∀ k it, k < h.length → posOf m k = none → (mrgH h h' m)[k]? = some it → ∃ x, h[k]? = some x ∧ it = renH (aftN h m) x := by
    intro k it hk hpk hit
    unfold mrgH at hit
    rw [List.getElem?_append_left (by rw [hmo]; exact hk)] at hit
    obtain ⟨x, hx, he⟩ := mrgO_get hit
    rw [Nat.zero_add, hpk] at he
    exact ⟨x, hx, he⟩
  refine ⟨?_, ?_, ?_, ?_, H'.pers, ?_⟩
  · intro k it hk
    rcases hnew k (List.getElem?_eq_some_iff.1 hk).1 with ⟨b, rfl, hb, hpb⟩ | ⟨j, hj, he, hg, _⟩
    · obtain ⟨x, hx, rfl⟩ := hout k it hb hpb hk
      have hit := hb_keep (π' := πn) (ρ' := ρ) (w' := w') hp (fun _ _ h => h) rfl (fun g hr => (hsep k g hb hpb hr).2) x (H.items k x hx)
      exact hb_ren hR2 (mrg_out hb hpb) (fun _ _ => rfl) hit
    · rw [hg] at hk
      cases hk
      rw [List.getElem?_eq_getElem hj]
      exact hb_ren hR1 he (fun _ _ => rfl) (H'.items j _ (List.getElem?_eq_getElem hj))
  · intro k hk g hr
    rcases hnew k hk with ⟨b, rfl, hb, hpb⟩ | ⟨j, hj, he, _, _⟩
    · rw [mrg_out hb hpb] at hr; exact Nat.lt_of_lt_of_le (H.lt k hb g hr) St.size
    · rw [he] at hr; exact H'.lt j hj g hr
  · have hmix : ∀ k k' g j, k < h.length → posOf m k = none → own (ρ k) g → j < h'.length → mrgE h.length m h'.length ρ ρ' k' = ρ' j → own (ρ' j) g → False := by
      intro k k' g j hk hpk hr hj he hr'
      rcases St.fresh j g hj hr' with ⟨i, _, hi⟩ | hge
      · exact (hsep k g hk hpk hr).1 i hi
      · exact absurd (H.lt k hk g hr) (by omega)
    intro k k' g hk hk' h1 h2
    rcases hnew k hk with ⟨b, rfl, hb, hpb⟩ | ⟨j, hj, he, _, hkj⟩ <;> rcases hnew k' hk' with ⟨b', rfl, hb', hpb'⟩ | ⟨j', hj', he', _, hkj'⟩
    · rw [mrg_out hb hpb] at h1; rw [mrg_out hb' hpb'] at h2; exact H.inj k k' g hb hb' h1 h2
    · rw [mrg_out hb hpb] at h1; rw [he'] at h2; exact (hmix k k' g j' hb hpb h1 hj' he' h2).elim
    · rw [mrg_out hb' hpb'] at h2; rw [he] at h1; exact (hmix k' k g j hb' hpb' h2 hj he h1).elim
    · rw [he] at h1; rw [he'] at h2
      have := H'.inj j j' g hj hj' h1 h2
      subst this
      rcases hkj with ⟨a1, a2⟩ | ⟨a1, a2⟩ <;> rcases hkj' with ⟨b1, b2⟩ | ⟨b1, b2⟩
      · have c1 := posOf_get a1; have c2 := posOf_get b1; rw [c1] at c2; cases c2; rfl
      · have c1 := (List.getElem?_eq_some_iff.1 (posOf_get a1)).1; omega
      · have c1 := (List.getElem?_eq_some_iff.1 (posOf_get b1)).1; omega
      · omega
  · intro k g hk hr
    rcases hnew k hk with ⟨b, rfl, hb, hpb⟩ | ⟨j, hj, he, _, _⟩
    · rw [mrg_out hb hpb] at hr
      cases hg : πn g with
      | none => rfl
      | some vs =>
        rcases hpf g vs hg with h0 | ⟨j, _, hj⟩ | hge
        · rw [H.apart k g hb hr] at h0; cases h0
        · exact ((hsep k g hb hpb hr).1 j hj).elim
        · exact absurd (H.lt k hb g hr) (by omega)
    · rw [he] at hr; exact H'.apart j g hj hr
  · intro k hk
    unfold mrgH at hk
    rw [List.length_append, hmo, List.length_map, List.length_drop] at hk
    have h1 : ¬ (k < h.length) := by omega
    have h2 : ¬ (k < h.length + (h'.length - m.length)) := by omega
    simp only [mrgE, if_neg h1, if_neg h2]
theorem step_mrg {N : Nat} {πn : Pers} (H : HSat π ρ h w) (hn : nodupN m = true) (hl : allLt h.length m = true) (St : Step m.length (envOf ρ m) (subH h m m) w π2 ρ' h' w' π') (hml : m.length ≤ h'.length) (H' : HSat πn ρ' h' w')
    (hp : ∀ g vs, π g = some vs → πn g = some vs) (hpf : ∀ g vs, πn g = some vs → π g = some vs ∨ (∃ j, j < m.length ∧ own (envOf ρ m j) g) ∨ w.heap.size ≤ g) :
    Step N ρ h w π (mrgE h.length m h'.length ρ ρ') (mrgH h h' m) w' πn := by
  have hlen := subH_len (h := h) (m := m) m
  have hmo := mrgO_len (h := h) (h' := h') (m := m) h 0
  have hlocal : ∀ j g, own (envOf ρ m j) g → ∃ b, b < h.length ∧ own (ρ b) g := by
    intro j g hj
    obtain ⟨b, hb, h1⟩ := own_env hj
    exact ⟨b, allLt_ok hl j b hb, h1⟩
  refine ⟨St.os, St.tape, St.output, St.size, ?_, ?_, hp, ?_, ?_⟩
  · intro g hg hnn
    refine St.block g hg (fun j _ hj => ?_)
    obtain ⟨b, hb, hr⟩ := hlocal j g hj
    exact hnn b hb hr
  · intro k g hk hr
    unfold mrgE at hr
    split at hr
    · rename_i hkl
      split at hr
      · rename_i j hj
        have hjl := (List.getElem?_eq_some_iff.1 (posOf_get hj)).1
        rcases St.fresh j g (by omega) hr with ⟨i, _, hi⟩ | hge
        · obtain ⟨b, hb, hrb⟩ := hlocal i g hi; exact .inl ⟨b, hb, hrb⟩
        · exact .inr hge
      · exact .inl ⟨k, hkl, hr⟩
    · split at hr
      · rcases St.fresh _ g (by omega) hr with ⟨i, _, hi⟩ | hge
        · obtain ⟨b, hb, hrb⟩ := hlocal i g hi; exact .inl ⟨b, hb, hrb⟩
        · exact .inr hge
      · exact hr.elim
  · intro g vs hg
    rcases hpf g vs hg with h0 | ⟨j, _, hj⟩ | hge
    · exact .inl h0
    · obtain ⟨b, hb, hr⟩ := hlocal j g hj; exact .inr (.inl ⟨b, hb, hr⟩)
    · exact .inr (.inr hge)
  · intro k it κ _ hit hκ
    have hkl := (List.getElem?_eq_some_iff.1 hit).1
    have hlt : k < (mrgO h h' m 0 h).length := by rw [hmo]; exact hkl
    have hget := List.getElem?_eq_getElem hlt
    obtain ⟨x, hx, he⟩ := mrgO_get hget
    have hfull : (mrgH h h' m)[k]? = some (mrgO h h' m 0 h)[k] := by unfold mrgH; rw [List.getElem?_append_left hlt, hget]
    rw [hit] at hx
    cases hx
    rw [Nat.zero_add] at he
    cases hpk : posOf m k with
    | none =>
      rw [hpk] at he
      exact ⟨mrg_out hkl hpk, _, by rw [hfull, he], by rw [knd_ren]; exact hκ⟩
    | some j =>
      rw [hpk] at he
      have hj := posOf_get hpk
      have hjl := (List.getElem?_eq_some_iff.1 hj).1
      have hsub : (subH h m m)[j]? = some (renH (posOf m) it) := by
        have hlt : j < (subH h m m).length := by rw [hlen]; exact hjl
        have hg := List.getElem?_eq_getElem hlt
        obtain ⟨b', hb', he'⟩ := subH_get hg
        rw [hj] at hb'
        cases hb'
        rw [hg, he', hit]
        rfl
      obtain ⟨e1, it', e2, k2⟩ := St.keep j _ κ hjl hsub (by rw [knd_ren]; exact hκ)
      refine ⟨?_, renH (backN h.length m) it', ?_, by rw [knd_ren]; exact k2⟩
      · rw [mrg_loc hn hl hj, e1]; simp [envOf, hj]
      · rw [hfull, he]; simp only [nth_eq, e2]; rfl
end
end Go.Proofs.Ytckijackbldkhaa.Sx
namespace Go.Proofs.Ytckijackbldkhaa.Sx
open Go
set_option linter.unusedVariables false
set_option linter.unusedSimpArgs false

/-- The data of a struct in a row, its own rows as data. -/
def tyF : List FT → Ty
  | [] => .unit | .pure t :: r => .prod t (tyF r) | .own _ t :: r => .prod (.row t) (tyF r)
theorem tyF_T : ∀ fs : List FT, FsT fs = (tyF fs).T
  | [] => rfl
  | .pure t :: r => congrArg (fun X => t.T × X) (tyF_T r)
  | .own e t :: r => congrArg (fun X => List t.T × X) (tyF_T r)
theorem tyF_sz : ∀ fs : List FT, (tyF fs).sz = fsz fs
  | [] => rfl
  | .pure t :: r => by show t.sz + (tyF r).sz = t.sz + fsz r; rw [tyF_sz r]
  | .own e t :: r => by show 1 + (tyF r).sz = 1 + fsz r; rw [tyF_sz r]
def castL (fs : List FT) (xs : List (FsT fs)) : List (tyF fs).T := tyF_T fs ▸ xs
theorem castL_map {A B : Type} (h : A = B) (xs : List A) : (h ▸ xs : List B) = xs.map (fun x => h ▸ x) := by subst h; simp
theorem cast_pair {X A B : Type} (h : A = B) (x : X × A) : (congrArg (fun Y => X × Y) h ▸ x : X × B) = (x.1, h ▸ x.2) := by subst h; rfl
theorem repF_dat {π π' : Pers} {w : World} (hp : ∀ g vs, π g = some vs → π' g = some vs) : ∀ (fs : List FT) (x : FsT fs) (cs : List Value) (L : List Nat), (∀ g, g ∈ L → ∀ vs e, w.heap[g]? = some (.cells vs e (0, 0)) → π' g = some vs) → RepF π w fs x cs L → Rep π' (tyF fs) (tyF_T fs ▸ x) cs
  | [], _, cs, L, _, h => h.1
  | .pure t :: r, x, cs, L, hL, ⟨c, d, h1, h2, h3⟩ => by
    have e : (tyF_T (.pure t :: r) ▸ x : (tyF (.pure t :: r)).T) = (x.1, tyF_T r ▸ x.2) := cast_pair (X := t.T) (tyF_T r) x
    rw [e]
    exact ⟨c, d, h1, rep_mono hp t _ _ h2, repF_dat hp r x.2 d L hL h3⟩
  | .own e0 t :: r, x, cs, L, hL, ⟨v, d, l, L', h1, h2, h3, h4⟩ => by
    have e : (tyF_T (.own e0 t :: r) ▸ x : (tyF (.own e0 t :: r)).T) = (x.1, tyF_T r ▸ x.2) := cast_pair (X := List t.T) (tyF_T r) x
    rw [e]
    subst h2
    refine ⟨[v], d, h1, ⟨v, rfl, ?_⟩, repF_dat hp r x.2 d L' (fun g hg => hL g (List.mem_append_right _ hg)) h4⟩
    rcases h3 with ⟨_, h5, A, h6⟩ | ⟨g, o, vs, c, h5, h6, h7, h8, h9, h10, h11⟩
    · exact ⟨A, 0, by rw [h6, h5]; rfl, by rw [h5]; exact Nat.le_refl _, by simp [maxLen], .inl h5⟩
    · exact ⟨_, c, h6, h7, h8, .inr ⟨g, o, vs, rfl, hL g (by rw [h5]; simp) vs e0 h9, fun i y hi => rep_mono hp t y _ (h11 i y hi)⟩⟩
abbrev BR (α : Type) := Option (List Prop × List Nat × α)
/-- A slice of the call's own that is handed over to be read: as a row. -/
def brC (s : SS) : CV → BR CV
  | .view t b a n => match nth s.hp b with
    | some (.row _ t' xs) => if h : t' = t then some ([a + n ≤ xs.length], [b], .row t (vw (h ▸ xs : List t.T) a n)) else none
    | some (.nest _ none fs xs none) => bif Nat.beq t.sz (fsz fs) then some ([a + n ≤ xs.length], [b], .row (tyF fs) (vw (castL fs xs) a n)) else none
    | _ => none
  | c => some ([], [], c)
def brL (s : SS) : List CV → BR (List CV)
  | [] => some ([], [], [])
  | c :: r => match brC s c, brL s r with
    | some (o, b, x), some (os, bs, xs) => some (o ++ os, b ++ bs, x :: xs)
    | _, _ => none
def brP (s : SS) : PV → BR PV
  | .c c => match brC s c with
    | some (o, b, x) => some (o, b, .c x)
    | none => none
  | .agg l => match brL s l with
    | some (o, b, x) => some (o, b, .agg x)
    | none => none
  | .clo f l => some ([], [], .clo f l)
def brA (s : SS) : List Bool → List PV → BR (List PV)
  | _, [] => some ([], [], [])
  | own, p :: r => match (match own with | true :: _ => some ([], [], p) | _ => brP s p), brA s own.tail r with
    | some (o, b, x), some (os, bs, xs) => some (o ++ os, b ++ bs, x :: xs)
    | _, _ => none
def hits (ρ : Env) (g : Nat) : List Nat → Bool
  | [] => false
  | b :: r => (match ρ b with | some (g', _, _, l) => Nat.beq g' g || memN l g | none => false) || hits ρ g r
theorem hits_iff {ρ : Env} {g : Nat} : ∀ {bs : List Nat}, hits ρ g bs = true ↔ ∃ b, b ∈ bs ∧ own (ρ b) g
  | [] => by simp [hits]
  | b :: r => by
    have h0 : (match ρ b with | some (g', _, _, l) => Nat.beq g' g || memN l g | none => false) = true ↔ own (ρ b) g := by
      cases hr : ρ b with
      | none => simp [own]
      | some q =>
        obtain ⟨g', o, n, l⟩ := q
        simp only [own, Bool.or_eq_true, memN_iff]
        constructor
        · rintro (h | h)
          · exact .inl (beq_eq h).symm
          · exact .inr h
        · rintro (h | h)
          · subst h; exact .inl (Nat.beq_refl _)
          · exact .inr h
    simp only [hits, Bool.or_eq_true, hits_iff (bs := r), h0]
    constructor
    · rintro (h | ⟨c, hc, hr⟩)
      · exact ⟨b, by simp, h⟩
      · exact ⟨c, by simp [hc], hr⟩
    · rintro ⟨c, hc, hr⟩
      rcases List.mem_cons.1 hc with rfl | hc
      · exact .inl hr
      · exact .inr ⟨c, hc, hr⟩
/-- What lasts while the blocks bs are only read. -/
def brE (π : Pers) (ρ : Env) (w : World) (bs : List Nat) : Pers := fun g => match π g with
  | some vs => some vs
  | none => if hits ρ g bs = true then (match w.heap[g]? with | some (.cells vs _ _) => some vs | _ => none) else none
theorem brE_mono (π : Pers) (ρ : Env) (w : World) (bs : List Nat) : ∀ g vs, π g = some vs → brE π ρ w bs g = some vs := fun g vs h => by simp [brE, h]
theorem brE_nil (π : Pers) (ρ : Env) (w : World) : brE π ρ w [] = π := by
  funext g; unfold brE; split <;> simp_all [hits]
def disj : List Nat → List Nat → Bool
  | [], _ => true
  | b :: r, m => !memN m b && disj r m
theorem disj_ok : ∀ {bs m : List Nat}, disj bs m = true → ∀ b, b ∈ bs → b ∉ m
  | [], m, _, b, hb => by simp at hb
  | a :: r, m, h, b, hb => by
    simp only [disj, Bool.and_eq_true, Bool.not_eq_true'] at h
    rcases List.mem_cons.1 hb with rfl | hb
    · intro hm; rw [memN_iff.2 hm] at h; exact absurd h.1 (by simp)
    · exact disj_ok h.2 b hb
theorem hsat_br {π : Pers} {ρ : Env} {h : List HB} {w : World} (H : HSat π ρ h w) {m bs : List Nat} (hn : nodupN m = true) (hl : allLt h.length m = true) (hb : allLt h.length bs = true) (hd : disj bs m = true) : HSat (brE π ρ w bs) (envOf ρ m) (subH h m m) w := by
  have H0 := hsat_sub H hn hl
  refine ⟨fun k it hk => ?_, H0.lt, H0.inj, ?_, ?_, H0.out⟩
  · exact hb_keep (brE_mono π ρ w bs) (fun _ _ h => h) rfl (fun _ _ => rfl) it (H0.items k it hk)
  · intro k g hk hr
    have h0 := H0.apart k g hk hr
    unfold brE
    rw [h0]
    simp only
    split
    · rename_i hh
      obtain ⟨b, hbm, hrb⟩ := hits_iff.1 hh
      obtain ⟨c, hc, hr⟩ := own_env hr
      obtain ⟨i, hi⟩ := List.mem_iff_getElem?.1 hbm
      have := H.inj b c g (allLt_ok hb i b hi) (allLt_ok hl k c hc) hrb hr
      subst this
      exact absurd (List.mem_of_getElem? hc) (disj_ok hd b hbm)
    · rfl
  · refine ⟨fun g vs hg => ?_, gok_mono (brE_mono π ρ w bs) H.pers.2⟩
    unfold brE at hg
    split at hg
    · rename_i vs' hv; simp only [Option.some.injEq] at hg; subst hg; exact H.pers.1 g _ hv
    · split at hg
      · split at hg
        · rename_i vs' e f hv; simp only [Option.some.injEq] at hg; subst hg; exact ⟨e, f, hv⟩
        · cases hg
      · cases hg
def subsN : List Nat → List Nat → Bool
  | [], _ => true
  | b :: r, m => memN m b && subsN r m
theorem brC_ok {π : Pers} {ρ : Env} {s : SS} {a : Act} {w : World} (S : Sat π ρ s a w) {c c' : CV} {v : Value} {o : List Prop} {b : List Nat} (h : DenC π ρ c v) (hc : brC s c = some (o, b, c')) (ho : allP o) {bs : List Nat} (hb : ∀ x, x ∈ b → x ∈ bs) : DenC (brE π ρ w bs) ρ c' v := by
  unfold brC at hc
  split at hc
  · rename_i t b' i n
    split at hc
    · rename_i e t' xs hit
      split at hc
      · rename_i ht
        subst ht
        cases hc
        obtain ⟨han, _⟩ := ho
        have hvl := vw_len han
        rcases h with ⟨rfl, A, rfl⟩ | ⟨g, p, q, cc, hr, h1, h2, h3, rfl⟩
        · refine ⟨A, 0, by rw [hvl], by rw [hvl]; exact Nat.le_refl _, by simp [maxLen], .inl (by simp [vw])⟩
        · rw [nth_eq] at hit
          rcases S.hs.items b' _ hit with ⟨h4, _⟩ | ⟨g', o', vs, h4, h5, h6, h7, h8⟩
          · rw [h4] at hr; cases hr
          · have hap := S.hs.apart b' g' (List.getElem?_eq_some_iff.1 hit).1 (own_main h4)
            rw [h4] at hr
            simp only [Option.some.injEq, Prod.mk.injEq] at hr
            obtain ⟨rfl, rfl, rfl⟩ := hr
            refine ⟨_, cc, by rw [hvl], by rw [hvl]; exact h1, h2, .inr ⟨g', o' + i * t'.sz, vs, rfl, ?_, ?_⟩⟩
            · have hh : hits ρ g' bs = true := hits_iff.2 ⟨b', hb b' (by simp), own_main h4⟩
              simp [brE, hap, hh, h5]
            · intro k x hk
              have := rowAt_vw (a := i) (n := n) (show RowAt π t' vs.toList o' xs from h8) k x hk
              exact rep_mono (brE_mono π ρ w bs) t' x _ this
      · cases hc
    · rename_i e fs xs hit
      cases hz : Nat.beq t.sz (fsz fs) with
      | false => rw [hz] at hc; cases hc
      | true =>
        rw [hz] at hc
        cases hc
        have hz := beq_eq hz
        obtain ⟨han, _⟩ := ho
        have hcl : (castL fs xs).length = xs.length := by unfold castL; rw [castL_map]; simp
        have hvl : (vw (castL fs xs) i n).length = n := vw_len (by rw [hcl]; exact han)
        rcases h with ⟨rfl, A, rfl⟩ | ⟨g, p, q, cc, hr, h1, h2, h3, rfl⟩
        · refine ⟨A, 0, by rw [hvl], by rw [hvl]; exact Nat.le_refl _, by simp [maxLen], .inl (by simp [vw])⟩
        · rw [nth_eq] at hit
          rcases S.hs.items b' _ hit with ⟨h4, _⟩ | ⟨g', o', vs, Ls, h4, h5, h6, h7, h8, h9, h10⟩
          · rw [h4] at hr; cases hr
          · have hbl := (List.getElem?_eq_some_iff.1 hit).1
            have hin : ∀ g, own (ρ b') g → ∀ vs e, w.heap[g]? = some (.cells vs e (0, 0)) → brE π ρ w bs g = some vs := fun g hg vs e he => by
              have hap := S.hs.apart b' g hbl hg
              have hh : hits ρ g bs = true := hits_iff.2 ⟨b', hb b' (by simp), hg⟩
              simp [brE, hap, hh, he]
            rw [h4] at hr
            simp only [Option.some.injEq, Prod.mk.injEq] at hr
            obtain ⟨rfl, rfl, rfl⟩ := hr
            refine ⟨_, cc, by rw [hvl], by rw [hvl]; exact h1, h2, .inr ⟨g', o' + i * t.sz, vs, rfl, hin g' (own_main h4) vs e h5, ?_⟩⟩
            intro k x hk
            have hk' := vw_get hk
            unfold castL at hk'
            rw [castL_map, List.getElem?_map] at hk'
            cases hx : xs[i + k]? with
            | none => rw [hx] at hk'; cases hk'
            | some y =>
              rw [hx] at hk'
              simp only [Option.map_some, Option.some.injEq] at hk'
              subst hk'
              have hlt : i + k < Ls.length := by rw [h8]; exact (List.getElem?_eq_some_iff.1 hx).1
              have hL := List.getElem?_eq_getElem hlt
              have := h10 (i + k) y _ hx hL
              have := repF_dat (brE_mono π ρ w bs) fs y _ _ (fun g hg => hin g (by rw [h4]; exact .inr (mem_flat hL hg))) this
              rw [tyF_sz]
              rw [show o' + i * t.sz + k * fsz fs = o' + (i + k) * fsz fs by rw [hz, Nat.add_mul, Nat.add_assoc]]
              exact this
    · cases hc
  · cases hc
    exact den_up (brE_mono π ρ w bs) (fun _ _ h => h) _ _ h
theorem allP_app {p q : List Prop} (h : allP (p ++ q)) : allP p ∧ allP q := by
  induction p with
  | nil => exact ⟨trivial, h⟩
  | cons x r ih => exact ⟨⟨h.1, (ih h.2).1⟩, (ih h.2).2⟩
theorem brL_ok {π : Pers} {ρ : Env} {s : SS} {a : Act} {w : World} (S : Sat π ρ s a w) {bs : List Nat} : ∀ {l l' : List CV} {vs : List Value} {o : List Prop} {b : List Nat}, All2 (DenC π ρ) l vs → brL s l = some (o, b, l') → allP o → (∀ x, x ∈ b → x ∈ bs) → All2 (DenC (brE π ρ w bs) ρ) l' vs
  | [], l', vs, o, b, h, hc, _, _ => by simp only [brL, Option.some.injEq, Prod.mk.injEq] at hc; obtain ⟨_, _, rfl⟩ := hc; cases vs with | nil => trivial | cons _ _ => exact h.elim
  | c :: r, l', [], o, b, h, _, _, _ => h.elim
  | c :: r, l', v :: vs, o, b, h, hc, ho, hb => by
    simp only [brL] at hc
    split at hc
    · rename_i o1 b1 x os b2 xs h1 h2
      cases hc
      obtain ⟨ho1, ho2⟩ := allP_app ho
      exact ⟨brC_ok S h.1 h1 ho1 (fun y hy => hb y (by simp [hy])), brL_ok S h.2 h2 ho2 (fun y hy => hb y (by simp [hy]))⟩
    · cases hc
theorem brP_ok {π : Pers} {ρ : Env} {s : SS} {a : Act} {w : World} (S : Sat π ρ s a w) {bs : List Nat} {c c' : PV} {v : Value} {o : List Prop} {b : List Nat} (h : DenP π ρ c v) (hc : brP s c = some (o, b, c')) (ho : allP o) (hb : ∀ x, x ∈ b → x ∈ bs) : DenP (brE π ρ w bs) ρ c' v := by
  cases c with
  | c x =>
    simp only [brP] at hc
    split at hc
    · rename_i o1 b1 y hy
      cases hc
      exact brC_ok S h hy ho hb
    · cases hc
  | agg l =>
    simp only [brP] at hc
    split at hc
    · rename_i o1 b1 y hy
      cases hc
      obtain ⟨vs, h1, h2⟩ := h
      exact ⟨vs, h1, brL_ok S h2 hy ho hb⟩
    · cases hc
  | clo f l =>
    simp only [brP, Option.some.injEq, Prod.mk.injEq] at hc
    obtain ⟨_, _, rfl⟩ := hc
    exact denp_up (brE_mono π ρ w bs) (fun _ _ h => h) _ _ h
theorem brA_ok {π : Pers} {ρ : Env} {s : SS} {a : Act} {w : World} (S : Sat π ρ s a w) {bs : List Nat} : ∀ {l l' : List PV} {own : List Bool} {vs : List Value} {o : List Prop} {b : List Nat}, All2 (DenP π ρ) l vs → brA s own l = some (o, b, l') → allP o → (∀ x, x ∈ b → x ∈ bs) → All2 (DenP (brE π ρ w bs) ρ) l' vs
  | [], l', own, vs, o, b, h, hc, _, _ => by simp only [brA, Option.some.injEq, Prod.mk.injEq] at hc; obtain ⟨_, _, rfl⟩ := hc; cases vs with | nil => trivial | cons _ _ => exact h.elim
  | c :: r, l', own, [], o, b, h, _, _, _ => h.elim
  | c :: r, l', own, v :: vs, o, b, h, hc, ho, hb => by
    simp only [brA] at hc
    split at hc
    · rename_i o1 b1 x os b2 xs h1 h2
      cases hc
      obtain ⟨ho1, ho2⟩ := allP_app ho
      refine ⟨?_, brA_ok S h.2 h2 ho2 (fun y hy => hb y (by simp [hy]))⟩
      split at h1
      · cases h1; exact denp_up (brE_mono π ρ w bs) (fun _ _ h => h) _ _ h.1
      · exact brP_ok S h.1 h1 ho1 (fun y hy => hb y (by simp [hy]))
    · cases hc

/-- The blocks that these cells lead to. -/
def refC : CV → Option Nat
  | .ptr b _ => some b | .rptr _ b _ _ => some b | .view _ b _ _ => some b | .mp b => some b | _ => none
def cellsOfP : PV → List CV | .c c => [c] | .agg l => l | .clo _ l => l
def flatten : List PV → List CV | [] => [] | p :: r => cellsOfP p ++ flatten r
def reach (h : List HB) : Nat → List CV → List Nat → List Nat
  | 0, _, seen => seen
  | _ + 1, [], seen => seen
  | k + 1, c :: r, seen => match refC c with
    | none => reach h k r seen
    | some b => bif memN seen b then reach h k r seen else match nth h b with
      | some (.cells _ cs) => reach h k (cs ++ r) (seen ++ [b])
      | some (.nest _ _ _ _ (some (_, cs))) => reach h k (cs ++ r) (seen ++ [b])
      | _ => reach h k r (seen ++ [b])
abbrev Tr := List PV → List HB → (SV → List HB → Prop) → Prop
def isE : List Nat → Bool | [] => true | _ => false
def putS (s : SS) (dst : Option Nat) (r : SV) (K : SS → Prop) : Prop :=
  match r with
  | .gd _ _ _ => False
  | r => putK s dst r K
def callP (s : SS) (own : List Bool) (tr : Tr) (args : List PV) (dst : Option Nat) (K : SS → Prop) : Prop :=
  match brA s own args with
  | some (ob, bs, args') =>
    let m := reach s.hp 1000 (flatten args') []
    bif nodupN m && allLt s.hp.length m && allLt s.hp.length bs && disj bs m then
      obl ob (tr (args'.map (renP (posOf m))) (subH s.hp m m) fun r h' =>
        bif (isE bs || (flatS r && flatHs h')) && Nat.ble m.length h'.length then
          putS { nt := s.nt, fr := renF (aftN s.hp m) s.fr, hp := mrgH s.hp h' m } dst (renS (backN s.hp.length m) r) K
        else False)
    else False
  | none => False
theorem all2_ren {π : Pers} {ρ ρ' : Env} {f : Nat → Option Nat} (hr : Ren f ρ ρ') {l : List PV} {vs : List Value} (h : All2 (DenP π ρ) l vs) : All2 (DenP π ρ') (l.map (renP f)) vs := all2_map (denp_ren hr) h
theorem callP_ok {N : Nat} {P : Program} {f : FuncId} {tr : Tr} (htr : ∀ args h Q, tr args h Q → FSpec P f args h Q) {π : Pers} {ρ : Env} {s : SS} {a : Act} {w : World} (S : Sat π ρ s a w) {own : List Bool} {args : List PV} {vs : List Value} (ha : All2 (DenP π ρ) args vs) {dst : Option Nat} {K : SS → Prop} (h : callP s own tr args dst K) :
    Calls P f vs.toArray w fun e w' => ∃ v, e = .returned v ∧ Out N P π ρ s w K (a.put dst v) w' := by
  unfold callP at h
  split at h
  · rename_i ob bs args' hbr
    dsimp only at h
    generalize hm : reach s.hp 1000 (flatten args') [] = m at h
    cases hq : (nodupN m && allLt s.hp.length m && allLt s.hp.length bs && disj bs m) with
    | false => rw [hq] at h; exact h.elim
    | true =>
      rw [hq] at h
      simp only [cond_true] at h
      simp only [Bool.and_eq_true] at hq
      obtain ⟨⟨⟨hn, hl⟩, hlb⟩, hdj⟩ := hq
      obtain ⟨ho, htr'⟩ := obl_out h
      have hsp := htr _ _ _ htr'
      have hargs := all2_ren (ren_env ρ m) (brA_ok S (bs := bs) ha hbr ho (fun x hx => hx))
      have hlen := subH_len (h := s.hp) (m := m) m
      refine (hsp (brE π ρ w bs) (envOf ρ m) w vs (hsat_br S.hs hn hl hlb hdj) hargs).mono ?_
      rintro e w' ⟨v, π', ρ', r, h', rfl, hden, H', St, hK⟩
      rw [hlen] at St
      refine ⟨v, rfl, ?_⟩
      cases hq2 : ((isE bs || (flatS r && flatHs h')) && Nat.ble m.length h'.length) with
      | false => rw [hq2] at hK; exact hK.elim
      | true =>
        rw [hq2] at hK
        simp only [cond_true] at hK
        simp only [Bool.and_eq_true, Bool.or_eq_true] at hq2
        obtain ⟨hfl, hle⟩ := hq2
        have hml := Nat.le_of_ble_eq_true hle
        -- what lasts behind the call
        have fin : ∀ πn : Pers, HSat πn ρ' h' w' → DenS πn ρ' r v → (∀ g vs, π g = some vs → πn g = some vs) → (∀ g vs, πn g = some vs → π g = some vs ∨ (∃ j, j < m.length ∧ Sx.own (envOf ρ m j) g) ∨ w.heap.size ≤ g) → Out N P π ρ s w K (a.put dst v) w' := by
          intro πn Hn hdn hp hpf
          have HM := hsat_mrg S.hs hn hl St Hn hml hp hpf
          have SM := step_mrg (N := N) S.hs hn hl St hml Hn hp hpf
          have hR2 := ren_aft S.hs hn St
          have S' : Sat πn (mrgE s.hp.length m h'.length ρ ρ') { nt := s.nt, fr := renF (aftN s.hp m) s.fr, hp := mrgH s.hp h' m } a w' := by
            refine ⟨HM, ?_, S.df, S.nt, once_ren S.on⟩
            intro i x hi
            obtain ⟨u, hu, rfl⟩ := lk_ren hi
            exact slot_ren hR2 _ (slot_up hp (fun _ _ h => h) u (S.fs i u hu))
          have hdr := dens_ren (ren_back (ρ := ρ) hn hl Hn) hdn
          generalize renS (backN s.hp.length m) r = r' at hK hdr
          cases r' with
          | gd j b x => exact hK.elim
          | p x =>
            obtain ⟨s', g1, g2, g3⟩ := putK_ok S' (x := x) hdr hK
            exact ⟨πn, _, s', g1, by rw [g3]; exact SM, g2⟩
          | tup l =>
            obtain ⟨s', g1, g2, g3⟩ := putK_tup S' (x := l) hdr hK
            exact ⟨πn, _, s', g1, by rw [g3]; exact SM, g2⟩
        rcases hfl with he | ⟨hf1, hf2⟩
        · have hbs : bs = [] := by cases bs with | nil => rfl | cons _ _ => simp [isE] at he
          subst hbs
          rw [brE_nil] at St
          refine fin π' H' hden St.pmono (fun g vs hg => ?_)
          rcases St.pfresh g vs hg with h0 | ⟨j, hj, hr⟩ | hge
          · exact .inl h0
          · exact .inr (.inl ⟨j, by omega, hr⟩)
          · exact .inr (.inr hge)
        · refine fin π ⟨?_, H'.lt, H'.inj, ?_, ?_, H'.out⟩ (dens_flat hf1 hden) (fun _ _ h => h) (fun _ _ h => .inl h)
          · intro k it hk
            exact hb_flat (flatHs_get hf2 hk) (H'.items k it hk)
          · intro k g hk hr
            have h0 := H'.apart k g hk hr
            cases hg : π g with
            | none => rfl
            | some vs => have := St.pmono g vs (brE_mono π ρ w bs g vs hg); rw [h0] at this; cases this
          · exact ⟨fun g vs hg => H'.pers.1 g vs (St.pmono g vs (brE_mono π ρ w bs g vs hg)), S.hs.pers.2⟩
  · exact h.elim

/-! ### rows that nobody writes any more -/
def keepN (bs : List Nat) (b : Nat) : Option Nat := bif memN bs b then none else some b
def goneB (bs : List Nat) : Nat → List HB → List HB
  | _, [] => []
  | k, it :: r => (bif memN bs k then .gone else renH (keepN bs) it) :: goneB bs (k + 1) r
def frzS (bs : List Nat) (s : SS) : SS := match bs with
  | [] => s
  | _ => { nt := s.nt, fr := renF (keepN bs) s.fr, hp := goneB bs 0 s.hp }
def noCells (h : List HB) : List Nat → Bool
  | [] => true
  | b :: r => (match nth h b with | some (.cells _ _) => false | some (.map _ _ _ _ _) => false | some (.row _ (.fix _) _) => false | some _ => true | none => false) && noCells h r
theorem noCells_ok {h : List HB} : ∀ {bs : List Nat}, noCells h bs = true → ∀ b, b ∈ bs → b < h.length ∧ ∀ it κ, h[b]? = some it → knd it ≠ some κ
  | [], _, b, hb => by simp at hb
  | a :: r, hq, b, hb => by
    simp only [noCells, Bool.and_eq_true] at hq
    rcases List.mem_cons.1 hb with rfl | hb
    · obtain ⟨h1, _⟩ := hq
      rw [nth_eq] at h1
      cases hx : h[b]? with
      | none => rw [hx] at h1; cases h1
      | some it =>
        refine ⟨(List.getElem?_eq_some_iff.1 hx).1, fun y κ e hκ => ?_⟩
        rw [hx] at h1
        simp only [Option.some.injEq] at e
        subst e
        cases it with
        | cells t cs => cases h1
        | map ka kt va vt es => cases h1
        | row e t xs =>
          cases t with
          | fix u => cases h1
          | _ => cases hκ
        | _ => cases hκ
    · exact noCells_ok hq.2 b hb
theorem goneB_get {bs : List Nat} : ∀ {h : List HB} {k i : Nat} {it : HB}, (goneB bs k h)[i]? = some it → ∃ x, h[i]? = some x ∧ it = (bif memN bs (k + i) then .gone else renH (keepN bs) x)
  | [], k, i, it, h => by simp [goneB] at h
  | x :: r, k, 0, it, h => by simp only [goneB, List.getElem?_cons_zero, Option.some.injEq] at h; exact ⟨x, rfl, h.symm⟩
  | x :: r, k, i + 1, it, h => by
    simp only [goneB, List.getElem?_cons_succ] at h ⊢
    obtain ⟨y, h1, h2⟩ := goneB_get h
    exact ⟨y, h1, by rw [h2, show k + 1 + i = k + (i + 1) by omega]⟩
theorem goneB_len {bs : List Nat} : ∀ {h : List HB} {k : Nat}, (goneB bs k h).length = h.length
  | [], _ => rfl
  | _ :: r, k => by simp only [goneB, List.length_cons, goneB_len (h := r)]
theorem goneB_get' {bs : List Nat} {h : List HB} {i : Nat} {x : HB} (hi : h[i]? = some x) : (goneB bs 0 h)[i]? = some (bif memN bs i then .gone else renH (keepN bs) x) := by
  have hlt : i < (goneB bs 0 h).length := by rw [goneB_len]; exact (List.getElem?_eq_some_iff.1 hi).1
  obtain ⟨y, h1, h2⟩ := goneB_get (List.getElem?_eq_getElem hlt)
  rw [hi] at h1
  cases h1
  rw [List.getElem?_eq_getElem hlt, h2, Nat.zero_add]
def frzE (bs : List Nat) (ρ : Env) : Env := fun k => bif memN bs k then none else ρ k
theorem frzE_own {bs : List Nat} {ρ : Env} {k g : Nat} (h : own (frzE bs ρ k) g) : own (ρ k) g ∧ memN bs k = false := by
  unfold frzE at h
  cases hm : memN bs k with
  | true => rw [hm] at h; exact h.elim
  | false => rw [hm] at h; exact ⟨h, rfl⟩
theorem sat_frz {N : Nat} {π : Pers} {ρ : Env} {s : SS} {a : Act} {w : World} (S : Sat π ρ s a w) {bs : List Nat} (hb : noCells s.hp bs = true) :
    ∃ π' ρ', Sat π' ρ' (frzS bs s) a w ∧ Step N ρ s.hp w π ρ' (frzS bs s).hp w π' ∧ (∀ p v, DenP (brE π ρ w bs) ρ p v → DenP π' ρ' (renP (keepN bs) p) v) ∧ (∀ c v, DenC π ρ c v → DenC π' ρ' (renC (keepN bs) c) v) := by
  cases bs with
  | nil =>
    have hR : Ren (keepN []) ρ ρ := by intro b k x hk hx; simp only [keepN, memN, cond_false, Option.some.injEq] at hk; subst hk; exact hx
    exact ⟨π, ρ, S, Step.refl _ _ _ _ _, fun p v h => by rw [brE_nil] at h; exact denp_ren hR p v h, fun c v h => den_ren hR c v h⟩
  | cons b0 bs0 =>
    generalize hbs : b0 :: bs0 = bs at *
    have hfs : frzS bs s = { nt := s.nt, fr := renF (keepN bs) s.fr, hp := goneB bs 0 s.hp } := by subst hbs; rfl
    rw [hfs]
    have hR : Ren (keepN bs) ρ (frzE bs ρ) := by
      intro b k x hk hx
      unfold keepN at hk
      unfold frzE
      cases hm : memN bs b with
      | true => rw [hm] at hk; cases hk
      | false => rw [hm] at hk; simp only [cond_false, Option.some.injEq] at hk; subst hk; rw [hm]; exact hx
    have hmono := brE_mono π ρ w bs
    have hlen : (goneB bs 0 s.hp).length = s.hp.length := goneB_len
    have hpers : ∀ g vs, brE π ρ w bs g = some vs → (π g = some vs ∨ ∃ j, j < s.hp.length ∧ own (ρ j) g) ∧ ∃ e f, w.heap[g]? = some (.cells vs e f) := by
      intro g vs hg
      unfold brE at hg
      split at hg
      · rename_i vs' hv; simp only [Option.some.injEq] at hg; subst hg; exact ⟨.inl hv, S.hs.pers.1 g _ hv⟩
      · split at hg
        · rename_i hh
          obtain ⟨b, hbm, hrb⟩ := hits_iff.1 hh
          split at hg
          · rename_i vs' e f hv; simp only [Option.some.injEq] at hg; subst hg; exact ⟨.inr ⟨b, (noCells_ok hb b hbm).1, hrb⟩, e, f, hv⟩
          · cases hg
        · cases hg
    have H : HSat (brE π ρ w bs) (frzE bs ρ) (goneB bs 0 s.hp) w := by
      refine ⟨?_, ?_, ?_, ?_, ⟨fun g vs hg => (hpers g vs hg).2, gok_mono hmono S.hs.pers.2⟩, ?_⟩
      · intro k it hk
        obtain ⟨x, hx, rfl⟩ := goneB_get hk
        rw [Nat.zero_add]
        cases hm : memN bs k with
        | true => trivial
        | false =>
          have h0 := hb_keep (π' := brE π ρ w bs) (w' := w) hmono (fun _ _ h => h) rfl (fun _ _ => rfl) x (S.hs.items k x hx)
          exact hb_ren hR (by simp [frzE, hm]) (fun _ _ => rfl) h0
      · intro k hk g hr; rw [hlen] at hk; exact S.hs.lt k hk g (frzE_own hr).1
      · intro k k' g hk hk' h1 h2; rw [hlen] at hk hk'; exact S.hs.inj k k' g hk hk' (frzE_own h1).1 (frzE_own h2).1
      · intro k g hk hr
        rw [hlen] at hk
        obtain ⟨h1, h2⟩ := frzE_own hr
        have h0 := S.hs.apart k g hk h1
        unfold brE
        rw [h0]
        simp only
        split
        · rename_i hh
          obtain ⟨b, hbm, hrb⟩ := hits_iff.1 hh
          have := S.hs.inj k b g hk (noCells_ok hb b hbm).1 h1 hrb
          subst this
          rw [memN_iff.2 hbm] at h2; cases h2
        · rfl
      · intro k hk; rw [hlen] at hk; unfold frzE; rw [S.hs.out k hk]; cases memN bs k <;> rfl
    refine ⟨brE π ρ w bs, frzE bs ρ, ⟨H, ?_, S.df, S.nt, once_ren S.on⟩, ?_, fun p v h => denp_ren hR p v h, fun c v h => den_ren hR c v (den_up hmono (fun _ _ h => h) c v h)⟩
    · intro i v hi
      obtain ⟨u, hu, rfl⟩ := lk_ren hi
      exact slot_ren hR _ (slot_up hmono (fun _ _ h => h) u (S.fs i u hu))
    · refine ⟨rfl, rfl, rfl, Nat.le_refl _, fun _ _ _ => rfl, ?_, hmono, ?_, ?_⟩
      · intro k g hk hr
        simp only [hlen] at hk
        exact .inl ⟨k, hk, (frzE_own hr).1⟩
      · intro g vs hg
        rcases (hpers g vs hg).1 with h | h
        · exact .inl h
        · exact .inr (.inl h)
      · intro k it κ _ hk hκ
        have hm : memN bs k = false := by
          cases hm : memN bs k with
          | false => rfl
          | true => exact absurd hκ ((noCells_ok hb k (memN_iff.1 hm)).2 it κ hk)
        refine ⟨by simp [frzE, hm], renH (keepN bs) it, ?_, by rw [knd_ren]; exact hκ⟩
        simp only
        rw [goneB_get' hk, hm]
        rfl
/-- Parts, in which slices of the call's own are rows that nobody writes any more. -/
def brPs (s : SS) : List (Nat × PV) → BR (List (Nat × PV))
  | [] => some ([], [], [])
  | (i, p) :: r => match brP s p, brPs s r with
    | some (o, b, x), some (os, bs, xs) => some (o ++ os, b ++ bs, (i, x) :: xs)
    | _, _ => none
theorem brPs_ok {π : Pers} {ρ : Env} {s : SS} {a : Act} {w : World} (S : Sat π ρ s a w) {bs : List Nat} : ∀ {l l' : List (Nat × PV)} {vs : List (Nat × Value)} {o : List Prop} {b : List Nat}, All2 (fun p u => p.1 = u.1 ∧ DenP π ρ p.2 u.2) l vs → brPs s l = some (o, b, l') → allP o → (∀ x, x ∈ b → x ∈ bs) → All2 (fun p u => p.1 = u.1 ∧ DenP (brE π ρ w bs) ρ p.2 u.2) l' vs
  | [], l', vs, o, b, h, hc, _, _ => by simp only [brPs, Option.some.injEq, Prod.mk.injEq] at hc; obtain ⟨_, _, rfl⟩ := hc; cases vs with | nil => trivial | cons _ _ => exact h.elim
  | c :: r, l', [], o, b, h, _, _, _ => h.elim
  | (i, p) :: r, l', v :: vs, o, b, h, hc, ho, hb => by
    simp only [brPs] at hc
    split at hc
    · rename_i o1 b1 x os b2 xs h1 h2
      cases hc
      obtain ⟨ho1, ho2⟩ := allP_app ho
      exact ⟨⟨h.1.1, brP_ok S h.1.2 h1 ho1 (fun y hy => hb y (by simp [hy]))⟩, brPs_ok S h.2 h2 ho2 (fun y hy => hb y (by simp [hy]))⟩
    · cases hc
def renPs (f : Nat → Option Nat) (l : List (Nat × PV)) : List (Nat × PV) := l.map fun p => (p.1, renP f p.2)
/-- Whether the blocks hold no rows of data. -/
def flatAt (h : List HB) : List Nat → Bool
  | [] => true
  | b :: r => (match nth h b with | some it => flatH it | none => true) && flatAt h r
/-- A call; where what is handed over to be read can't be told apart behind it, it is read alone from now on. -/
def callF (s : SS) (own : List Bool) (tr : Tr) (args : List PV) (dst : Option Nat) (K : SS → Prop) : Prop :=
  match brA s own args with
  | some (ob, bs, args') => bif isE bs || flatAt s.hp (reach s.hp 1000 (flatten args') []) then callP s own tr args dst K
    else bif noCells s.hp bs then obl ob (callP (frzS bs s) (args'.map fun _ => true) tr (args'.map (renP (keepN bs))) dst K) else False
  | none => False
theorem callF_ok {N : Nat} {P : Program} {f : FuncId} {tr : Tr} (htr : ∀ args h Q, tr args h Q → FSpec P f args h Q) {π : Pers} {ρ : Env} {s : SS} {a : Act} {w : World} (S : Sat π ρ s a w) {own : List Bool} {args : List PV} {vs : List Value} (ha : All2 (DenP π ρ) args vs) {dst : Option Nat} {K : SS → Prop} (h : callF s own tr args dst K) :
    Calls P f vs.toArray w fun e w' => ∃ v, e = .returned v ∧ Out N P π ρ s w K (a.put dst v) w' := by
  unfold callF at h
  split at h
  · rename_i ob bs args' hbr
    cases hc : (isE bs || flatAt s.hp (reach s.hp 1000 (flatten args') [])) with
    | true => rw [hc] at h; exact callP_ok htr S ha h
    | false =>
      rw [hc] at h
      simp only [cond_false] at h
      cases hq : noCells s.hp bs with
      | false => rw [hq] at h; exact h.elim
      | true =>
        rw [hq] at h
        obtain ⟨ho, hK⟩ := obl_out h
        obtain ⟨π', ρ', S', St, hp', hc'⟩ := sat_frz (N := N) S hq
        have hd := brA_ok S (bs := bs) ha hbr ho (fun x hx => hx)
        refine (callP_ok (N := N) htr S' (all2_map hp' hd) hK).mono ?_
        rintro e w' ⟨v, rfl, π2, ρ2, s2, h2, h3, h4⟩
        exact ⟨v, rfl, π2, ρ2, s2, h2, St.trans h3, h4⟩
  · exact h.elim
end Go.Proofs.Ytckijackbldkhaa.Sx
