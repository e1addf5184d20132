/- A machine of abstract states over the model, part D: loads, addresses, numbers. No condition. -/
import Derived.Test.YtkpepieepdmjpaaSxC
namespace Go.Proofs.Ytkpepieepdmjpaa.Sx
open Go
set_option linter.unusedVariables false
set_option linter.unusedSimpArgs false

def toCV : (t : Ty) → t.T → List CV
  | .int k, n => [.int k n]
  | .bool, b => [.bool b]
  | .str, s => [.str s]
  | .unit, _ => []
  | .prod a b, x => toCV a x.1 ++ toCV b x.2
  | .row t, xs => [.row t xs]
  | .fix t, x => toCV t x
theorem toCV_ok {π : Pers} {ρ : Env} : ∀ (t : Ty) (x : t.T) (cs : List Value), Rep π t x cs → All2 (DenC π ρ) (toCV t x) cs
  | .int k, n, cs, h => by simp only [Rep] at h; subst h; exact ⟨rfl, trivial⟩
  | .bool, b, cs, h => by simp only [Rep] at h; subst h; exact ⟨rfl, trivial⟩
  | .str, s, cs, h => by obtain ⟨rfl, h⟩ := h; exact ⟨⟨rfl, h⟩, trivial⟩
  | .unit, _, cs, h => by simp only [Rep] at h; subst h; trivial
  | .prod a b, x, cs, h => by
    obtain ⟨c, d, rfl, h1, h2⟩ := h
    exact all2_append (toCV_ok a _ _ h1) (toCV_ok b _ _ h2)
  | .row t, xs, cs, h => by obtain ⟨v, rfl, h⟩ := h; exact ⟨h, trivial⟩
  | .fix t, x, cs, h => toCV_ok t x cs h
def fromCV : (t : Ty) → List CV → Option (t.T × List CV)
  | .int k, l => match l with
    | .int k' n :: r => bif decide (k' = k) then some (n, r) else none
    | _ => none
  | .bool, l => match l with
    | .bool b :: r => some (b, r)
    | _ => none
  | .str, l => match l with
    | .str s :: r => some (s, r)
    | _ => none
  | .unit, l => some ((), l)
  | .prod a b, l => match fromCV a l with
    | some (x, r) => match fromCV b r with
      | some (y, r') => some ((x, y), r')
      | none => none
    | none => none
  | .row t, l => match l with
    | .row t' xs :: r => if h : t' = t then some (h ▸ xs, r) else none
    | .nils :: r => some (([] : List t.T), r)
    | _ => none
  | .fix t, l => fromCV t l
theorem fromCV_ok {π : Pers} {ρ : Env} : ∀ (t : Ty) (l : List CV) (vs : List Value) (x : t.T) (r : List CV), All2 (DenC π ρ) l vs → fromCV t l = some (x, r) → ∃ v1 v2, vs = v1 ++ v2 ∧ Rep π t x v1 ∧ All2 (DenC π ρ) r v2
  | .int k, l, vs, x, r, ha, h => by
    simp only [fromCV] at h
    split at h
    · rename_i k' n r'
      cases hb : decide (k' = k) with
      | false => rw [hb] at h; cases h
      | true =>
        rw [hb] at h
        cases h
        have := of_decide_eq_true hb
        subst this
        match vs, ha with
        | v :: vs', ha => exact ⟨[v], vs', rfl, by obtain ⟨ha, _⟩ := ha; simp only [DenC] at ha; subst ha; rfl, ha.2⟩
    · cases h
  | .bool, l, vs, x, r, ha, h => by
    simp only [fromCV] at h
    split at h
    · cases h
      match vs, ha with
      | v :: vs', ha => exact ⟨[v], vs', rfl, by obtain ⟨ha, _⟩ := ha; simp only [DenC] at ha; subst ha; rfl, ha.2⟩
    · cases h
  | .str, l, vs, x, r, ha, h => by
    simp only [fromCV] at h
    split at h
    · cases h
      match vs, ha with
      | v :: vs', ha => exact ⟨[v], vs', rfl, by obtain ⟨⟨ha, hs⟩, _⟩ := ha; subst ha; exact ⟨rfl, hs⟩, ha.2⟩
    · cases h
  | .unit, l, vs, x, r, ha, h => by
    simp only [fromCV, Option.some.injEq, Prod.mk.injEq] at h
    obtain ⟨_, rfl⟩ := h
    exact ⟨[], vs, rfl, rfl, ha⟩
  | .prod a b, l, vs, x, r, ha, h => by
    simp only [fromCV] at h
    split at h
    · rename_i y r1 h1
      split at h
      · rename_i z r2 h2
        cases h
        obtain ⟨v1, v2, rfl, hr1, ha1⟩ := fromCV_ok a _ _ _ _ ha h1
        obtain ⟨v3, v4, rfl, hr2, ha2⟩ := fromCV_ok b _ _ _ _ ha1 h2
        exact ⟨v1 ++ v3, v4, by rw [List.append_assoc], ⟨v1, v3, rfl, hr1, hr2⟩, ha2⟩
      · cases h
    · cases h
  | .row t, l, vs, x, r, ha, h => by
    simp only [fromCV] at h
    split at h
    · rename_i t' xs r'
      split at h
      · rename_i he
        subst he
        cases h
        match vs, ha with
        | v :: vs', ha => exact ⟨[v], vs', rfl, ⟨v, rfl, ha.1⟩, ha.2⟩
      · cases h
    · cases h
      match vs, ha with
      | v :: vs', ha =>
        obtain ⟨ha1, ha2⟩ := ha
        simp only [DenC] at ha1
        subst ha1
        exact ⟨[_], vs', rfl, ⟨_, rfl, none, 0, rfl, Nat.le_refl _, by simp [maxLen], .inl rfl⟩, ha2⟩
    · cases h
  | .fix t, l, vs, x, r, ha, h => fromCV_ok t l vs x r ha h
def nth {α : Type} : List α → Nat → Option α
  | [], _ => none
  | a :: _, 0 => some a
  | _ :: r, n + 1 => nth r n
theorem nth_eq {α : Type} : ∀ (l : List α) (n : Nat), nth l n = l[n]?
  | [], n => by simp [nth]
  | a :: _, 0 => rfl
  | _ :: r, n + 1 => by simp only [nth, List.getElem?_cons_succ]; exact nth_eq r n

/-- The cells behind an address: what they hold, and where in them the address points. -/
def cellsAt (s : SS) : PV → Option (List Prop × List CV × Nat)
  | .c (.ptr b off) => match nth s.hp b with
    | some (.cells _ cs) => some ([], cs, off)
    | _ => none
  | .c (.rptr t b i j) => match nth s.hp b with
    | some (.row _ t' xs) => bif decide (t = t') then some ([i < xs.length], toCV t' (xs.getD i t'.dft), j) else none
    | some (.nest _ bx fs xs (some (q, hs))) => bif Nat.beq t.sz (nsz bx fs) then some ([i = q, i < xs.length], hs, j) else none
    | _ => none
  | .c (.eptr t xs i j) => some ([i < xs.length], toCV t (xs.getD i t.dft), j)
  | _ => none
theorem seg_get {l : List Value} {o n i : Nat} {v : Value} (h : (seg l o n)[i]? = some v) : l[o + i]? = some v := by
  unfold seg at h
  rw [List.getElem?_take] at h
  split at h
  · rwa [List.getElem?_drop] at h
  · cases h
/-- Where something is known of, the worlds are the same. -/
def Alike (π : Pers) (ρ : Env) (h : List HB) (w w' : World) : Prop := ∀ g, (π g ≠ none ∨ ∃ k it, h[k]? = some it ∧ it ≠ .gone ∧ own (ρ k) g) → w'.heap[g]? = w.heap[g]?
theorem Alike.refl (π : Pers) (ρ : Env) (h : List HB) (w : World) : Alike π ρ h w w := fun _ _ => rfl
/-- A pointer into what lasts. -/
def isEp : PV → Bool | .c (.eptr _ _ _ _) => true | _ => false
def pz (b : Bool) (π : Pers) : Pers := fun g => bif b then π g else none
theorem cellsAt_ok {π : Pers} {ρ : Env} {s : SS} {a : Act} {w : World} (S : Sat π ρ s a w) {x : PV} {v : Value} (hx : DenP π ρ x v) {ob : List Prop} {cs : List CV} {off : Nat} (h : cellsAt s x = some (ob, cs, off)) (ho : allP ob) :
    ∃ g o vs, v = .pointer (some ⟨g, o + off, none⟩) ∧ All2 (DenC π ρ) cs vs ∧ ∀ w', Alike (pz (isEp x) π) ρ s.hp w w' → ∀ i u, vs[i]? = some u → w'.cell? ⟨g, o + i, none⟩ = some u := by
  unfold cellsAt at h
  split at h
  · rename_i b off'
    split at h
    · rename_i t cs' hb
      cases h
      rw [nth_eq] at hb
      obtain ⟨g, vs, h1, h2, h3⟩ := S.hs.items b _ hb
      obtain ⟨g', o', n', h4, rfl⟩ := hx
      rw [h1] at h4
      cases h4
      refine ⟨g, 0, vs.toList, by simp, h3, fun w' hw i u hi => ?_⟩
      have h2' := (hw g (.inr ⟨b, _, hb, by simp, own_main h1⟩)).trans h2
      rw [cell_of_row w' g _ vs t (0, 0) h2', Nat.zero_add]
      simpa using hi
    · cases h
  · rename_i t b i j
    split at h
    · rename_i e t' xs hb
      cases hd : decide (t = t') with
      | false => rw [hd] at h; cases h
      | true =>
        rw [hd] at h
        cases h
        have := of_decide_eq_true hd
        subst this
        rw [nth_eq] at hb
        obtain ⟨g', o', n', h4, rfl⟩ := hx
        rcases S.hs.items b _ hb with ⟨h1, h2⟩ | ⟨g, o, vs, h1, h2, h3, h5, h6⟩
        · rw [h1] at h4; cases h4
        · rw [h1] at h4
          cases h4
          obtain ⟨hi, _⟩ := ho
          have hget : xs[i]? = some (xs.getD i t.dft) := by rw [List.getD_eq_getElem?_getD, List.getElem?_eq_getElem hi]; rfl
          have hr := h6 i _ hget
          refine ⟨g', o' + i * t.sz, _, by simp [Nat.add_assoc], toCV_ok t _ _ hr, fun w' hw k u hk => ?_⟩
          have := seg_get hk
          have h2' := (hw g' (.inr ⟨b, _, hb, by simp, own_main h1⟩)).trans h2
          rw [cell_of_row w' g' _ vs e (0, 0) h2']
          simpa using this
    · rename_i e bx fs xs q hs hb
      cases hd : Nat.beq t.sz (nsz bx fs) with
      | false => rw [hd] at h; cases h
      | true =>
        rw [hd] at h
        cases h
        have hsz : t.sz = nsz bx fs := Nat.eq_of_beq_eq_true hd
        rw [nth_eq] at hb
        obtain ⟨g', o', n', h4, rfl⟩ := hx
        rcases S.hs.items b _ hb with ⟨h1, _⟩ | ⟨g, o, vs, Ls, h1, h2, h3, h5, h6, h7, h8⟩
        · rw [h1] at h4; cases h4
        · rw [h1] at h4
          cases h4
          obtain ⟨hiq, hi, _⟩ := ho
          subst hiq
          have hLi : i < Ls.length := by omega
          rcases h8 i _ _ (List.getElem?_eq_getElem hi) (List.getElem?_eq_getElem hLi) with ⟨_, _, hh⟩ | ⟨hne, _⟩
          · refine ⟨g', o' + i * t.sz, _, by simp [Nat.add_assoc], hh, fun w' hw k u hk => ?_⟩
            have := seg_get hk
            have h2' := (hw g' (.inr ⟨b, _, hb, by simp, own_main h1⟩)).trans h2
            rw [cell_of_row w' g' _ vs e (0, 0) h2', hsz]
            simpa using this
          · exact absurd rfl hne
    · cases h
  · rename_i t xs i j
    cases h
    obtain ⟨g, o, vs, h1, h2, rfl⟩ := hx
    obtain ⟨hi, _⟩ := ho
    have hget : xs[i]? = some (xs.getD i t.dft) := by rw [List.getD_eq_getElem?_getD, List.getElem?_eq_getElem hi]; rfl
    obtain ⟨e, f, he⟩ := S.hs.pers.1 g vs h1
    refine ⟨g, o + i * t.sz, _, by simp [Nat.add_assoc], toCV_ok t _ _ (h2 i _ hget), fun w' hw k u hk => ?_⟩
    have := seg_get hk
    have he' := (hw g (.inl (by simp [pz, isEp, h1]))).trans he
    rw [cell_of_row w' g _ vs e f he']
    simpa using this
  · cases h

def loadC (P : Program) (s : SS) (t : TypeId) (x : PV) : PR :=
  match cellsAt s x with
  | some (ob, cs, off) => match isAggB P t with
    | some true => match szOf P t with
      | some n => bif Nat.ble (off + n) cs.length then some (ob, [], .agg (segC cs off n)) else none
      | none => none
    | some false => match nth cs off with
      | some c => some (ob, [], .c c)
      | none => none
    | none => none
  | none => none
theorem loadC_ok {P : Program} {π : Pers} {ρ : Env} {s : SS} {a : Act} {w : World} (S : Sat π ρ s a w) {t : TypeId} {x : PV} {v : Value} (hx : DenP π ρ x v) {ob fc : List Prop} {r : PV} (h : loadC P s t x = some (ob, fc, r)) (ho : allP ob) :
    allP fc ∧ ∃ u, (∀ w', Alike (pz (isEp x) π) ρ s.hp w w' → (Instr.loadAt t v).run P w' = .ok u w') ∧ DenP π ρ r u := by
  unfold loadC at h
  split at h
  · rename_i ob' cs off hc
    split at h
    · rename_i hb
      split at h
      · rename_i n hn
        cases hl : Nat.ble (off + n) cs.length with
        | false => rw [hl] at h; cases h
        | true =>
          rw [hl] at h
          cases h
          obtain ⟨g, o, vs, rfl, h2, h3⟩ := cellsAt_ok S hx hc ho
          have hle := Nat.le_of_ble_eq_true hl
          rw [all2_len h2] at hle
          refine ⟨trivial, .agg ((vs.drop off).take n).toArray, ?_, _, rfl, all2_take (all2_drop h2 off) n⟩
          intro w' hw
          have hlc := run_loadCells_list (P := P) w' ⟨g, o + off, none⟩ ((vs.drop off).take n) (fun j u hj => by
            rw [Addr.add_lit, Nat.add_assoc]
            exact h3 w' hw _ _ (seg_get (o := off) (n := n) hj))
          rw [show ((vs.drop off).take n).length = n by rw [List.length_take, List.length_drop]; omega] at hlc
          simp [Instr.loadAt, Instr.sureAddr, loadVar, run_isAgg hb, run_sizeOf hn, hlc]
      · cases h
    · rename_i hb
      split at h
      · rename_i c hcc
        cases h
        obtain ⟨g, o, vs, rfl, h2, h3⟩ := cellsAt_ok S hx hc ho
        rw [nth_eq] at hcc
        obtain ⟨u, hu, hd⟩ := all2_get h2 off c hcc
        refine ⟨trivial, u, ?_, hd⟩
        intro w' hw
        simp [Instr.loadAt, Instr.sureAddr, loadVar, run_isAgg hb, h3 w' hw _ _ hu]
      · cases h
    · cases h
  · cases h

def shiftC (k : Nat) : PV → Option PV
  | .c (.ptr b off) => some (.c (.ptr b (off + k)))
  | .c (.rptr t b i j) => some (.c (.rptr t b i (j + k)))
  | .c (.eptr t xs i j) => some (.c (.eptr t xs i (j + k)))
  | _ => none
theorem shiftC_ok {π : Pers} {ρ : Env} {k : Nat} {x r : PV} {v : Value} (hx : DenP π ρ x v) (h : shiftC k x = some r) : ∃ g o, v = .pointer (some ⟨g, o, none⟩) ∧ DenP π ρ r (.pointer (some ⟨g, o + k, none⟩)) := by
  unfold shiftC at h
  split at h
  · cases h; obtain ⟨g, o, n, h1, rfl⟩ := hx; exact ⟨g, _, rfl, g, o, n, h1, by rw [Nat.add_assoc]⟩
  · cases h; obtain ⟨g, o, n, h1, rfl⟩ := hx; exact ⟨g, _, rfl, g, o, n, h1, by rw [Nat.add_assoc]⟩
  · cases h; obtain ⟨g, o, vs, h1, h2, rfl⟩ := hx; exact ⟨g, _, rfl, g, o, vs, h1, h2, by rw [Nat.add_assoc]⟩
  · cases h
def fieldAddrC (P : Program) (t : TypeId) (f : Nat) (x : PV) : PR :=
  match P.underlying t with
  | some (.struct fs) => match fs[f]? with
    | some fd => match szOf P fd.type with
      | some (n + 1) => match shiftC fd.offset x with
        | some r => some ([], [], r)
        | none => none
      | _ => none
    | none => none
  | _ => none
theorem fieldAddrC_ok {P : Program} {π : Pers} {ρ : Env} {t : TypeId} {f : Nat} {x : PV} {v : Value} (hx : DenP π ρ x v) {ob fc : List Prop} {r : PV} (h : fieldAddrC P t f x = some (ob, fc, r)) :
    allP fc ∧ ∃ u, (∀ w : World, (Instr.fieldAt t v f).run P w = .ok u w) ∧ DenP π ρ r u := by
  unfold fieldAddrC at h
  split at h
  · rename_i fs hf
    split at h
    · rename_i fd hfd
      split at h
      · rename_i n hn
        split at h
        · rename_i r' hr
          cases h
          obtain ⟨g, o, rfl, hd⟩ := shiftC_ok hx hr
          refine ⟨trivial, _, ?_, hd⟩
          simp [Instr.fieldAt, run_underlying hf, hfd, Instr.sureAddr, fieldPlace, run_sizeOf hn, Addr.add_lit]
        · cases h
      · cases h
    · cases h
  · cases h
def fieldC (P : Program) (t : TypeId) (f : Nat) (x : PV) : PR :=
  match x with
  | .agg cs => match P.underlying t with
    | some (.struct fs) => match fs[f]? with
      | some fd => match partC P fd.type cs fd.offset with
        | some r => some ([], [], r)
        | none => none
      | none => none
    | _ => none
  | _ => none
theorem fieldC_ok {P : Program} {π : Pers} {ρ : Env} {t : TypeId} {f : Nat} {x : PV} {v : Value} (hx : DenP π ρ x v) {ob fc : List Prop} {r : PV} (h : fieldC P t f x = some (ob, fc, r)) :
    allP fc ∧ ∃ u, (∀ w : World, (Instr.field t v f).run P w = .ok u w) ∧ DenP π ρ r u := by
  unfold fieldC at h
  split at h
  · rename_i cs
    split at h
    · rename_i fs hf
      split at h
      · rename_i fd hfd
        split at h
        · rename_i r' hr
          cases h
          obtain ⟨vs, rfl, hvs⟩ := hx
          obtain ⟨u, hu, hd⟩ := partC_ok hvs hr
          refine ⟨trivial, u, ?_, hd⟩
          simp [Instr.field, run_underlying hf, hfd, asAgg, hu]
        · cases h
      · cases h
    · cases h
  · cases h

def bt (s : ByteArray) (i : Int) : Int := if h : i.toNat < s.size then ((s[i.toNat]'h).toNat : Int) else 0
/-- The address of an element. -/
def indexAddrC (P : Program) (t : TypeId) (x ix : PV) : PR :=
  match P.underlying t, ix with
  | some (.slice e), .c (.int k i) => match x with
    | .c (.row ty xs) => match szOf P e with
      | some n => bif Nat.beq n ty.sz then some ([0 ≤ i, i < xs.length], [], .c (.eptr ty xs i.toNat 0)) else none
      | none => none
    | .c (.view ty b a m) => match szOf P e with
      | some n => bif Nat.beq n ty.sz then some ([0 ≤ i, i < (m : Int)], [], .c (.rptr ty b (a + i.toNat) 0)) else none
      | none => none
    | _ => none
  | some (.array len e), .c (.int k i) => match x with
    | .c (.rptr ty b a 0) => match szOf P e with
      | some n => bif Nat.beq n ty.sz then some ([0 ≤ i, i < (len : Int)], [], .c (.rptr ty b (a + i.toNat) 0)) else none
      | none => none
    | .c (.ptr b off) => match szOf P e with
      | some n => some ([0 ≤ i, i < (len : Int)], [], .c (.ptr b (off + i.toNat * n)))
      | none => none
    | _ => none
  | _, _ => none
theorem beq_eq {a b : Nat} (h : Nat.beq a b = true) : a = b := Nat.eq_of_beq_eq_true h
theorem indexAddrC_ok {P : Program} {π : Pers} {ρ : Env} {t : TypeId} {x ix : PV} {v vi : Value} (hx : DenP π ρ x v) (hi : DenP π ρ ix vi) {ob fc : List Prop} {r : PV} (h : indexAddrC P t x ix = some (ob, fc, r)) (ho : allP ob) :
    allP fc ∧ ∃ u, (∀ w : World, (Instr.indexAt t v vi).run P w = .ok u w) ∧ DenP π ρ r u := by
  unfold indexAddrC at h
  split at h
  · rename_i e k i hu
    simp only [DenP, DenC] at hi
    subst hi
    split at h
    · rename_i ty xs
      split at h
      · rename_i n hn
        cases hb : Nat.beq n ty.sz with
        | false => rw [hb] at h; cases h
        | true =>
          rw [hb] at h
          cases h
          have := beq_eq hb
          subst this
          obtain ⟨h0, h1, _⟩ := ho
          obtain ⟨A, c, rfl, h2, h3, h4⟩ := hx
          rcases h4 with rfl | ⟨g, o, vs, rfl, h5, h6⟩
          · simp at h1; omega
          · refine ⟨trivial, _, ?_, g, o, vs, h5, h6, rfl⟩
            simp [Instr.indexAt, asIntOf, run_underlying hu, h0, h1, run_sizeOf hn, Addr.add_lit]
      · cases h
    · rename_i ty b a m
      split at h
      · rename_i n hn
        cases hb : Nat.beq n ty.sz with
        | false => rw [hb] at h; cases h
        | true =>
          rw [hb] at h
          cases h
          have := beq_eq hb
          subst this
          obtain ⟨h0, h1, _⟩ := ho
          rcases hx with ⟨rfl, A, rfl⟩ | ⟨g, o, m', c, h2, h3, h4, h5, rfl⟩
          · simp at h1; omega
          · refine ⟨trivial, _, ?_, g, o, m', h2, rfl⟩
            simp [Instr.indexAt, asIntOf, run_underlying hu, h0, h1, run_sizeOf hn, Addr.add_lit, Nat.add_mul, Nat.add_assoc]
      · cases h
    · cases h
  · rename_i len e k i hu
    simp only [DenP, DenC] at hi
    subst hi
    split at h
    · rename_i ty b a
      split at h
      · rename_i n hn
        cases hb : Nat.beq n ty.sz with
        | false => rw [hb] at h; cases h
        | true =>
          rw [hb] at h
          cases h
          have := beq_eq hb
          subst this
          obtain ⟨h0, h1, _⟩ := ho
          obtain ⟨g, o, m', h2, rfl⟩ := hx
          refine ⟨trivial, _, ?_, g, o, m', h2, rfl⟩
          simp [Instr.indexAt, asIntOf, run_underlying hu, h0, h1, run_sizeOf hn, Addr.add_lit, Nat.add_mul, Nat.add_assoc, Instr.sureAddr]
      · cases h
    · rename_i b off
      split at h
      · rename_i n hn
        cases h
        obtain ⟨h0, h1, _⟩ := ho
        obtain ⟨g, o, m', h2, rfl⟩ := hx
        refine ⟨trivial, _, ?_, g, o, m', h2, rfl⟩
        simp [Instr.indexAt, asIntOf, run_underlying hu, h0, h1, run_sizeOf hn, Addr.add_lit, Nat.add_assoc, Instr.sureAddr]
      · cases h
    · cases h
  · cases h
/-- Cells that all hold texts, numbers. -/
def strsOf : List CV → Option (List ByteArray)
  | [] => some []
  | .str x :: r => match strsOf r with | some l => some (x :: l) | none => none
  | _ => none
theorem strsOf_ok {π : Pers} {ρ : Env} : ∀ {cs : List CV} {l : List ByteArray} {vs : List Value}, strsOf cs = some l → All2 (DenC π ρ) cs vs → All2 (fun x v => v = .string x ∧ x.size ≤ maxI) l vs
  | [], l, [], h, _ => by simp only [strsOf, Option.some.injEq] at h; subst h; trivial
  | c :: r, l, v :: vs, h, ⟨h1, h2⟩ => by
    cases c <;> simp only [strsOf, reduceCtorEq] at h
    split at h
    · rename_i l' hl
      cases h
      exact ⟨h1, strsOf_ok hl h2⟩
    · cases h
  | [], _, _ :: _, _, h => h.elim
  | _ :: _, _, [], _, h => h.elim
def intsOf (k : IntKind) : List CV → Option (List Int)
  | [] => some []
  | .int k' x :: r => bif decide (k' = k) then (match intsOf k r with | some l => some (x :: l) | none => none) else none
  | _ => none
theorem intsOf_ok {π : Pers} {ρ : Env} {k : IntKind} : ∀ {cs : List CV} {l : List Int} {vs : List Value}, intsOf k cs = some l → All2 (DenC π ρ) cs vs → All2 (fun x v => v = .int k x) l vs
  | [], l, [], h, _ => by simp only [intsOf, Option.some.injEq] at h; subst h; trivial
  | c :: r, l, v :: vs, h, ⟨h1, h2⟩ => by
    cases c <;> simp only [intsOf, reduceCtorEq] at h
    rename_i k' n
    cases hd : decide (k' = k) with
    | false => rw [hd] at h; cases h
    | true =>
      rw [hd] at h
      have := of_decide_eq_true hd
      subst this
      simp only [cond_true] at h
      split at h
      · rename_i l' hl
        cases h
        exact ⟨h1, intsOf_ok hl h2⟩
      · cases h
  | [], _, _ :: _, _, h => h.elim
  | _ :: _, _, [], _, h => h.elim
def kindOf (P : Program) (t : TypeId) : Option IntKind := match P.underlying t with | some (.int k) => some k | _ => none
def indexC (P : Program) (t : TypeId) (x ix : PV) : PR :=
  match x, ix with
  | .c (.str s), .c (.int k i) => bif isSt P t then some ([0 ≤ i, i < s.size], [], .c (.int .u8 (bt s i))) else none
  | .agg cs, .c (.int k i) => match P.underlying t with
    | some (.array len e) => match isAggB P e, szOf P e, kindOf P e with
      | some false, some 1, none => match strsOf cs with
        | some l => some ([0 ≤ i, i < len, i < l.length], [], .c (.str (l.getD i.toNat ByteArray.empty)))
        | none => none
      | some false, some 1, some kd => match intsOf kd cs with
        | some l => some ([0 ≤ i, i < len, i < l.length], [], .c (.int kd (l.getD i.toNat 0)))
        | none => none
      | _, _, _ => none
    | _ => none
  | _, _ => none
theorem all2_getD {α β : Type} {R : α → β → Prop} {l : List α} {m : List β} (h : All2 R l m) {i : Nat} (hi : i < l.length) (d : α) : ∃ b, m[i]? = some b ∧ R (l.getD i d) b := by
  have e : l.getD i d = l[i] := by rw [List.getD_eq_getElem?_getD, List.getElem?_eq_getElem hi]; rfl
  rw [e]
  exact all2_get h i _ (List.getElem?_eq_getElem hi)
theorem indexC_ok {P : Program} {π : Pers} {ρ : Env} {t : TypeId} {x ix : PV} {v vi : Value} (hx : DenP π ρ x v) (hi : DenP π ρ ix vi) {ob fc : List Prop} {r : PV} (h : indexC P t x ix = some (ob, fc, r)) (ho : allP ob) :
    allP fc ∧ ∃ u, (∀ w : World, (Instr.index t v vi).run P w = .ok u w) ∧ DenP π ρ r u := by
  unfold indexC at h
  split at h
  · rename_i s k i
    cases hb : isSt P t with
    | false => rw [hb] at h; cases h
    | true =>
      rw [hb] at h
      cases h
      simp only [isSt] at hb
      split at hb
      · rename_i hu
        obtain ⟨h0, h1, _⟩ := ho
        obtain ⟨rfl, _⟩ := hx
        simp only [DenP, DenC] at hi
        subst hi
        refine ⟨trivial, _, ?_, rfl⟩
        have h2 : i.toNat < s.size := by omega
        simp [Instr.index, asIntOf, run_underlying hu, h0, bt, h2]
      · cases hb
  · rename_i cs k i
    simp only [DenP, DenC] at hi
    subst hi
    obtain ⟨vs, rfl, hvs⟩ := hx
    split at h
    · rename_i len e hu
      split at h
      · rename_i ha hz hk
        split at h
        · rename_i l hl
          cases h
          obtain ⟨h0, h1, h2, _⟩ := ho
          obtain ⟨v, hv, rfl, hs⟩ := all2_getD (strsOf_ok hl hvs) (i := i.toNat) (by omega) ByteArray.empty
          refine ⟨trivial, _, ?_, rfl, hs⟩
          simp [Instr.index, asIntOf, run_underlying hu, h0, h1, run_sizeOf hz, part, run_isAgg ha, hv]
        · cases h
      · rename_i kd ha hz hk
        split at h
        · rename_i l hl
          cases h
          obtain ⟨h0, h1, h2, _⟩ := ho
          obtain ⟨v, hv, rfl⟩ := all2_getD (intsOf_ok hl hvs) (i := i.toNat) (by omega) 0
          refine ⟨trivial, _, ?_, rfl⟩
          simp [Instr.index, asIntOf, run_underlying hu, h0, h1, run_sizeOf hz, part, run_isAgg ha, hv]
        · cases h
      · cases h
    · cases h
  · cases h
def nilC : PV → Option PV
  | .c (.ptr b o) => some (.c (.ptr b o))
  | .c (.rptr t b i j) => some (.c (.rptr t b i j))
  | .c (.eptr t xs i j) => some (.c (.eptr t xs i j))
  | .c (.func f) => some (.c (.func f))
  | .clo f l => some (.clo f l)
  | _ => none
end Go.Proofs.Ytkpepieepdmjpaa.Sx
