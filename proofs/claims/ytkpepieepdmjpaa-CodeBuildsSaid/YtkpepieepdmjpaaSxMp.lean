/- A machine of abstract states over the model, part Mp: maps. No condition. -/
import Derived.Test.YtkpepieepdmjpaaSxAt
import Derived.MapKept
import Derived.WideKeyRuns
namespace Go.Proofs.Ytkpepieepdmjpaa.Sx
open Go
set_option linter.unusedVariables false
set_option linter.unusedSimpArgs false

/-- '==' of data. -/
def eqT : (t : Ty) → t.T → t.T → Bool
  | .int _, a, b => (a : Int) == b
  | .bool, a, b => (a : Bool) == b
  | .str, a, b => strEq a b
  | .unit, _, _ => true
  | .prod s t, a, b => eqT s a.1 b.1 && eqT t a.2 b.2
  | .row _, _, _ => false
  | .fix _, _, _ => false
def Ty.key : Ty → Bool
  | .row _ => false | .fix _ => false | .prod a b => a.key && b.key | _ => true
theorem eqT_iff : ∀ (t : Ty), t.key = true → ∀ a b : t.T, eqT t a b = true ↔ a = b
  | .int _, _, a, b => by simp [eqT]
  | .bool, _, a, b => by simp [eqT]
  | .str, _, a, b => by simp only [eqT]; exact strEq_iff a b
  | .unit, _, a, b => by simp [eqT]
  | .prod s t, h, a, b => by
    simp only [Ty.key, Bool.and_eq_true] at h
    obtain ⟨a1, a2⟩ := a
    obtain ⟨b1, b2⟩ := b
    simp only [eqT, Bool.and_eq_true, eqT_iff s h.1, eqT_iff t h.2, Prod.mk.injEq]
  | .row _, h, _, _ => by simp [Ty.key] at h
  | .fix _, h, _, _ => by simp [Ty.key] at h
/-- A type of single cells that may be held against one another. -/
def leafK (P : Program) (T : TypeId) (t : Ty) : Bool :=
  match P.underlying T, t with
  | some (.int k), .int k' => decide (k' = k)
  | some .bool, .bool => true
  | some .string, .str => true
  | _, _ => false
/-- Fields from a cell on. -/
def fldK (P : Program) : List Field → Ty → Nat → Bool
  | [f], t, off => !(f.name == "_") && Nat.beq f.offset off && leafK P f.type t
  | f :: g :: r, .prod a b, off => !(f.name == "_") && Nat.beq f.offset off && leafK P f.type a && fldK P (g :: r) b (off + 1)
  | _, _, _ => false
/-- A key's type: whether its values are structs, and their data. -/
def keyK (P : Program) (T : TypeId) (ag : Bool) (t : Ty) : Bool :=
  match ag with
  | false => leafK P T t
  | true => match P.underlying T with
    | some (.struct fs) => !P.stoodInHeld T && fldK P fs.toList t 0
    | _ => false
section
variable {P : Program} {π : Pers}
theorem leaf_shape {T : TypeId} {t : Ty} (h : leafK P T t = true) : (∃ k, P.underlying T = some (.int k) ∧ t = .int k) ∨ (P.underlying T = some .bool ∧ t = .bool) ∨ (P.underlying T = some .string ∧ t = .str) := by
  unfold leafK at h
  split at h
  · rename_i k k' hu; have := of_decide_eq_true h; subst this; exact .inl ⟨_, hu, rfl⟩
  · rename_i hu; exact .inr (.inl ⟨hu, rfl⟩)
  · rename_i hu; exact .inr (.inr ⟨hu, rfl⟩)
  · cases h
theorem leaf_one {T : TypeId} {t : Ty} (h : leafK P T t = true) {x : t.T} {cs : List Value} (hx : Rep π t x cs) : ∃ v, cs = [v] := by
  rcases leaf_shape h with ⟨k, _, rfl⟩ | ⟨_, rfl⟩ | ⟨_, rfl⟩
  · exact ⟨_, hx⟩
  · exact ⟨_, hx⟩
  · exact ⟨_, hx.1⟩
theorem leaf_eq {T : TypeId} {t : Ty} (h : leafK P T t = true) {x y : t.T} {u v : Value} (hx : Rep π t x [u]) (hy : Rep π t y [v]) (d : Nat) (w : World) : (Op.equalIn (d + 1) T u v).run P w = .ok (eqT t x y) w := by
  rcases leaf_shape h with ⟨k, hu, rfl⟩ | ⟨hu, rfl⟩ | ⟨hu, rfl⟩
  · simp only [Rep, List.cons.injEq, and_true] at hx hy
    exact eqC_ok (π := π) (ρ := fun _ => none) (x := .int k x) (y := .int k y) hx hy (by simp [eqC, isIn, hu, eqT]) d w
  · simp only [Rep, List.cons.injEq, and_true] at hx hy
    exact eqC_ok (π := π) (ρ := fun _ => none) (x := .bool x) (y := .bool y) hx hy (by simp [eqC, isBl, hu, eqT]) d w
  · simp only [Rep, List.cons.injEq, and_true] at hx hy
    exact eqC_ok (π := π) (ρ := fun _ => none) (x := .str x) (y := .str y) hx hy (by simp [eqC, isSt, hu, eqT]) d w
theorem part_leaf {T : TypeId} {t : Ty} (h : leafK P T t = true) {vs : List Value} {off : Nat} {v : Value} (hv : vs[off]? = some v) (w : World) : (part T vs.toArray off).run P w = .ok v w := by
  have ha : isAggB P T = some false := by
    rcases leaf_shape h with ⟨k, hu, rfl⟩ | ⟨hu, rfl⟩ | ⟨hu, rfl⟩ <;> simp [isAggB, hu]
  simp [part, run_isAgg ha, hv]
theorem fld_eq {d : Nat} (w : World) : ∀ (fs : List Field) (t : Ty) (off : Nat) (x y : t.T) (us vs pre pre' : List Value), fldK P fs t off = true → pre.length = off → pre'.length = off → Rep π t x us → Rep π t y vs → (Op.eqFields (d + 1) (pre ++ us).toArray (pre' ++ vs).toArray fs).run P w = .ok (eqT t x y) w
  | [], t, off, x, y, us, vs, pre, pre', h, _, _, _, _ => by simp [fldK] at h
  | [f], t, off, x, y, us, vs, pre, pre', h, h1, h2, hx, hy => by
    simp only [fldK, Bool.and_eq_true, Bool.not_eq_true', beq_eq_false_iff_ne, ne_eq] at h
    obtain ⟨⟨hn, ho⟩, hl⟩ := h
    have ho := beq_eq ho
    obtain ⟨u, rfl⟩ := leaf_one hl hx
    obtain ⟨v, rfl⟩ := leaf_one hl hy
    have p1 := part_leaf hl (vs := pre ++ [u]) (off := f.offset) (v := u) (by rw [ho, ← h1, List.getElem?_append_right (Nat.le_refl _)]; simp) w
    have p2 := part_leaf hl (vs := pre' ++ [v]) (off := f.offset) (v := v) (by rw [ho, ← h2, List.getElem?_append_right (Nat.le_refl _)]; simp) w
    have he := leaf_eq hl hx hy d w
    rw [Op.eqFields]
    simp only [if_pos hn, Sem.run_bind, p1, p2, he, Result.andThen_ok]
    cases eqT t x y <;> simp [Op.eqFields]
  | f :: g :: r, .prod a b, off, x, y, us, vs, pre, pre', h, h1, h2, hx, hy => by
    simp only [fldK, Bool.and_eq_true, Bool.not_eq_true', beq_eq_false_iff_ne, ne_eq] at h
    obtain ⟨⟨⟨hn, ho⟩, hl⟩, hr⟩ := h
    have ho := beq_eq ho
    obtain ⟨c1, d1, rfl, hx1, hx2⟩ := hx
    obtain ⟨c2, d2, rfl, hy1, hy2⟩ := hy
    obtain ⟨u, rfl⟩ := leaf_one hl hx1
    obtain ⟨v, rfl⟩ := leaf_one hl hy1
    have p1 := part_leaf hl (vs := pre ++ ([u] ++ d1)) (off := f.offset) (v := u) (by rw [ho, ← h1, List.getElem?_append_right (Nat.le_refl _)]; simp) w
    have p2 := part_leaf hl (vs := pre' ++ ([v] ++ d2)) (off := f.offset) (v := v) (by rw [ho, ← h2, List.getElem?_append_right (Nat.le_refl _)]; simp) w
    have he := leaf_eq hl hx1 hy1 d w
    have ih := fld_eq (d := d) w (g :: r) b (off + 1) x.2 y.2 d1 d2 (pre ++ [u]) (pre' ++ [v]) hr (by simp [h1]) (by simp [h2]) hx2 hy2
    rw [List.append_assoc, List.append_assoc] at ih
    rw [Op.eqFields]
    simp only [if_pos hn, Sem.run_bind, p1, p2, he, Result.andThen_ok, eqT]
    cases hq : eqT a x.1 y.1
    · simp
    · simpa using ih
  | f :: g :: r, .int _, _, _, _, _, _, _, _, h, _, _, _, _ => by simp [fldK] at h
  | f :: g :: r, .bool, _, _, _, _, _, _, _, h, _, _, _, _ => by simp [fldK] at h
  | f :: g :: r, .str, _, _, _, _, _, _, _, h, _, _, _, _ => by simp [fldK] at h
  | f :: g :: r, .unit, _, _, _, _, _, _, _, h, _, _, _, _ => by simp [fldK] at h
  | f :: g :: r, .row _, _, _, _, _, _, _, _, h, _, _, _, _ => by simp [fldK] at h
  | f :: g :: r, .fix _, _, _, _, _, _, _, _, h, _, _, _, _ => by simp [fldK] at h
/-- '==' of keys. -/
theorem key_eq {T : TypeId} {ag : Bool} {t : Ty} (h : keyK P T ag t = true) {x y : t.T} {u v : Value} (hx : EntIs π ag t x u) (hy : EntIs π ag t y v) (w : World) : (Op.equal T u v).run P w = .ok (eqT t x y) w := by
  obtain ⟨cs, h1, h2⟩ := hx
  obtain ⟨ds, h3, h4⟩ := hy
  cases ag with
  | false =>
    simp only at h2 h4
    subst h2 h4
    exact leaf_eq h h1 h3 9999 w
  | true =>
    simp only at h2 h4
    subst h2 h4
    unfold keyK at h
    simp only at h
    split at h
    · rename_i fs hf
      simp only [Bool.and_eq_true, Bool.not_eq_true'] at h
      have hfo : P.fieldsOf T = fs := by simp [Program.fieldsOf, hf]
      unfold Op.equal
      rw [show Op.maxDepth = 9999 + 1 from rfl, run_equalIn_struct (P := P) w 9999 T _ _ (by rw [hfo]; exact hf) h.1, hfo]
      have := fld_eq (P := P) (d := 9998) w fs.toList t 0 x y cs ds [] [] h.2 rfl rfl h1 h3
      simpa using this
    · cases h
theorem check_leaf {T : TypeId} {t : Ty} (h : leafK P T t = true) {x : t.T} {v : Value} (hx : Rep π t x [v]) (e : Bool) (n : Nat) (w : World) : (Instr.checkKey e (n + 1) T v).run P w = .ok () w := by
  rcases leaf_shape h with ⟨k, hu, rfl⟩ | ⟨hu, rfl⟩ | ⟨hu, rfl⟩
  · simp only [Rep, List.cons.injEq, and_true] at hx
    subst hx
    simp [Instr.checkKey, run_underlying hu]
  · simp only [Rep, List.cons.injEq, and_true] at hx
    subst hx
    simp [Instr.checkKey, run_underlying hu]
  · simp only [Rep, List.cons.injEq, and_true] at hx
    obtain ⟨rfl, _⟩ := hx
    simp [Instr.checkKey, run_underlying hu]
theorem check_flds {e : Bool} {n : Nat} (w : World) : ∀ (fs : List Field) (t : Ty) (off : Nat) (x : t.T) (us pre : List Value), fldK P fs t off = true → pre.length = off → Rep π t x us →
    ((forIn fs PUnit.unit fun f _ => do if f.name ≠ "_" then (do Instr.checkKey e (n + 1) f.type (← part f.type (pre ++ us).toArray f.offset); pure (ForInStep.yield PUnit.unit)) else pure (ForInStep.yield PUnit.unit)) : Sem PUnit).run P w = .ok PUnit.unit w
  | [], t, off, x, us, pre, h, _, _ => by simp [fldK] at h
  | [f], t, off, x, us, pre, h, h1, hx => by
    simp only [fldK, Bool.and_eq_true, Bool.not_eq_true', beq_eq_false_iff_ne, ne_eq] at h
    obtain ⟨⟨hn, ho⟩, hl⟩ := h
    have ho := beq_eq ho
    obtain ⟨u, rfl⟩ := leaf_one hl hx
    have p1 := part_leaf hl (vs := pre ++ [u]) (off := f.offset) (v := u) (by rw [ho, ← h1, List.getElem?_append_right (Nat.le_refl _)]; simp) w
    have p2 := check_leaf hl hx e n w
    simp only [List.forIn_cons, List.forIn_nil, Sem.run_bind, hn, ne_eq, not_false_eq_true, if_true, Result.andThen_ok, p1, p2, Sem.run_pure]
  | f :: g :: r, .prod a b, off, x, us, pre, h, h1, hx => by
    simp only [fldK, Bool.and_eq_true, Bool.not_eq_true', beq_eq_false_iff_ne, ne_eq] at h
    obtain ⟨⟨⟨hn, ho⟩, hl⟩, hr⟩ := h
    have ho := beq_eq ho
    obtain ⟨c1, d1, rfl, hx1, hx2⟩ := hx
    obtain ⟨u, rfl⟩ := leaf_one hl hx1
    have p1 := part_leaf hl (vs := pre ++ ([u] ++ d1)) (off := f.offset) (v := u) (by rw [ho, ← h1, List.getElem?_append_right (Nat.le_refl _)]; simp) w
    have p2 := check_leaf hl hx1 e n w
    have ih := check_flds (e := e) (n := n) w (g :: r) b (off + 1) x.2 d1 (pre ++ [u]) hr (by simp [h1]) hx2
    rw [List.append_assoc] at ih
    rw [List.forIn_cons]
    simp only [Sem.run_bind, hn, ne_eq, not_false_eq_true, if_true, Result.andThen_ok, p1, p2, Sem.run_pure]
    exact ih
  | f :: g :: r, .int _, _, _, _, _, h, _, _ => by simp [fldK] at h
  | f :: g :: r, .bool, _, _, _, _, h, _, _ => by simp [fldK] at h
  | f :: g :: r, .str, _, _, _, _, h, _, _ => by simp [fldK] at h
  | f :: g :: r, .unit, _, _, _, _, h, _, _ => by simp [fldK] at h
  | f :: g :: r, .row _, _, _, _, _, h, _, _ => by simp [fldK] at h
  | f :: g :: r, .fix _, _, _, _, _, h, _, _ => by simp [fldK] at h
theorem key_check {T : TypeId} {ag : Bool} {t : Ty} (h : keyK P T ag t = true) {x : t.T} {u : Value} (hx : EntIs π ag t x u) (e : Bool) (w : World) : (Instr.checkKey e 10000 T u).run P w = .ok () w := by
  obtain ⟨cs, h1, h2⟩ := hx
  cases ag with
  | false =>
    simp only at h2
    subst h2
    exact check_leaf h h1 e 9999 w
  | true =>
    simp only at h2
    subst h2
    unfold keyK at h
    simp only at h
    split at h
    · rename_i fs hf
      simp only [Bool.and_eq_true, Bool.not_eq_true'] at h
      rw [show (10000 : Nat) = 9999 + 1 from rfl, Instr.checkKey]
      simp only [Sem.run_bind, run_underlying hf, Result.andThen_ok]
      rw [← Array.forIn_toList]
      have := check_flds (P := P) (e := e) (n := 9998) w fs.toList t 0 x cs [] h.2 rfl h1
      simp at this ⊢
      rw [this]
      rfl
    · cases h
/-! ### lookups -/
def lookM {kt : Ty} {α : Type} (k : kt.T) : List (kt.T × α) → Option α
  | [] => none
  | (x, v) :: r => if eqT kt k x = true then some v else lookM k r
def setM {kt : Ty} {α : Type} (k : kt.T) (v : α) : List (kt.T × α) → List (kt.T × α)
  | [] => [(k, v)]
  | (x, u) :: r => if eqT kt k x = true then (x, v) :: r else (x, u) :: setM k v r
abbrev EntR (π : Pers) (ka : Bool) (kt : Ty) (va : Bool) (vt : Ty) : kt.T × vt.T → MapEntry → Prop := fun p e => EntIs π ka kt p.1 e.key ∧ EntIs π va vt p.2 e.val
theorem find_asking {T : TypeId} {ka va : Bool} {kt vt : Ty} (h : keyK P T ka kt = true) {x : kt.T} {u : Value} (hx : EntIs π ka kt x u) : ∀ (es : List (kt.T × vt.T)) (ms : List MapEntry) (i : Nat), All2 (EntR π ka kt va vt) es ms →
    (lookM x es = none ∧ ∀ w : World, (Instr.findAsking T u ms i).run P w = .ok none w) ∨ ∃ j p e, es[j]? = some p ∧ ms[j]? = some e ∧ eqT kt x p.1 = true ∧ lookM x es = some p.2 ∧ (∀ v, setM x v es = es.set j (p.1, v)) ∧ ∀ w : World, (Instr.findAsking T u ms i).run P w = .ok (some (i + j, e.val)) w
  | [], [], i, _ => .inl ⟨rfl, by simp [Instr.findAsking]⟩
  | p :: es, e :: ms, i, ⟨h1, h2⟩ => by
    have he := fun w : World => key_eq h hx h1.1 w
    cases hq : eqT kt x p.1 with
    | true =>
      rw [hq] at he
      refine .inr ⟨0, p, e, rfl, rfl, hq, by simp [lookM, hq], fun v => by simp [setM, hq], ?_⟩
      simp [Instr.findAsking, he]
    | false =>
      rw [hq] at he
      rcases find_asking h hx es ms (i + 1) h2 with ⟨a1, a2⟩ | ⟨j, p', e', a1, a2, a3, a4, a5, a6⟩
      · exact .inl ⟨by simp [lookM, hq, a1], by simp [Instr.findAsking, he, a2]⟩
      · refine .inr ⟨j + 1, p', e', by simpa using a1, by simpa using a2, a3, by simp [lookM, hq, a4], fun v => by simp [setM, hq, a5], ?_⟩
        intro w
        simp only [Instr.findAsking, Sem.run_bind, he, Result.andThen_ok, Bool.false_eq_true, if_false, a6]
        rw [show i + 1 + j = i + (j + 1) by omega]
  | [], _ :: _, _, h => h.elim
  | _ :: _, [], _, h => h.elim
theorem find_now {T : TypeId} {kd : TypeDesc} {va : Bool} {kt vt : Ty} (hu : P.underlying T = some kd) (h : leafK P T kt = true) {x : kt.T} {u : Value} (hx : EntIs π false kt x u) : ∀ (es : List (kt.T × vt.T)) (ms : List MapEntry) (i : Nat), All2 (EntR π false kt va vt) es ms →
    (lookM x es = none ∧ Instr.findNow kd u ms i = some none) ∨ ∃ j p e, es[j]? = some p ∧ ms[j]? = some e ∧ eqT kt x p.1 = true ∧ lookM x es = some p.2 ∧ (∀ v, setM x v es = es.set j (p.1, v)) ∧ Instr.findNow kd u ms i = some (some (i + j, e.val))
  | [], [], i, _ => .inl ⟨rfl, by simp [Instr.findNow]⟩
  | p :: es, e :: ms, i, ⟨h1, h2⟩ => by
    have he : Instr.sameNow kd u e.key = some (eqT kt x p.1) := by
      obtain ⟨cs, b1, b2⟩ := hx
      obtain ⟨ds, b3, b4⟩ := h1.1
      simp only at b2 b4
      subst b2 b4
      rcases leaf_shape h with ⟨k, hu', rfl⟩ | ⟨hu', rfl⟩ | ⟨hu', rfl⟩ <;> (rw [hu'] at hu; cases hu)
      · simp only [Rep, List.cons.injEq, and_true] at b1 b3
        subst b1; rw [b3]; simp [Instr.sameNow, eqT]
      · simp only [Rep, List.cons.injEq, and_true] at b1 b3
        subst b1; rw [b3]; simp [Instr.sameNow, eqT]
      · simp only [Rep, List.cons.injEq, and_true] at b1 b3
        obtain ⟨rfl, _⟩ := b1
        rw [b3.1]
        simp only [Instr.sameNow, eqT, Option.some.injEq]
        exact Bool.eq_iff_iff.2 ((MapKept.bytes_beq x p.1).trans (strEq_iff x p.1).symm)
    cases hq : eqT kt x p.1 with
    | true =>
      rw [hq] at he
      exact .inr ⟨0, p, e, rfl, rfl, hq, by simp [lookM, hq], fun v => by simp [setM, hq], by simp [Instr.findNow, he]⟩
    | false =>
      rw [hq] at he
      rcases find_now hu h hx es ms (i + 1) h2 with ⟨a1, a2⟩ | ⟨j, p', e', a1, a2, a3, a4, a5, a6⟩
      · exact .inl ⟨by simp [lookM, hq, a1], by simp [Instr.findNow, he, a2]⟩
      · refine .inr ⟨j + 1, p', e', by simpa using a1, by simpa using a2, a3, by simp [lookM, hq, a4], fun v => by simp [setM, hq, a5], ?_⟩
        simp only [Instr.findNow, he, a6]
        rw [show i + 1 + j = i + (j + 1) by omega]
  | [], _ :: _, _, h => h.elim
  | _ :: _, [], _, h => h.elim
theorem find_key {T : TypeId} {ka va : Bool} {kt vt : Ty} (h : keyK P T ka kt = true) {x : kt.T} {u : Value} (hx : EntIs π ka kt x u) {es : List (kt.T × vt.T)} {ms : List MapEntry} (ha : All2 (EntR π ka kt va vt) es ms) :
    (lookM x es = none ∧ ∀ w : World, (Instr.findKey T u ms).run P w = .ok none w) ∨ ∃ j p e, es[j]? = some p ∧ ms[j]? = some e ∧ eqT kt x p.1 = true ∧ lookM x es = some p.2 ∧ (∀ v, setM x v es = es.set j (p.1, v)) ∧ ∀ w : World, (Instr.findKey T u ms).run P w = .ok (some (j, e.val)) w := by
  cases ka with
  | true =>
    have hu : ∃ fs, P.underlying T = some (.struct fs) := by
      unfold keyK at h
      simp only at h
      split at h
      · rename_i fs hf; exact ⟨fs, hf⟩
      · cases h
    obtain ⟨fs, hu⟩ := hu
    have hk : ∀ w : World, (Instr.findKey T u ms).run P w = (Instr.findAsking T u ms).run P w := fun w => run_findKey_eq w (by rw [hu]) u ms
    rcases find_asking h hx es ms 0 ha with ⟨a1, a2⟩ | ⟨j, p, e, a1, a2, a3, a4, a5, a6⟩
    · exact .inl ⟨a1, fun w => by rw [hk]; exact a2 w⟩
    · exact .inr ⟨j, p, e, a1, a2, a3, a4, a5, fun w => by rw [hk]; have := a6 w; rw [Nat.zero_add] at this; exact this⟩
  | false =>
    obtain ⟨kd, hu⟩ : ∃ kd, P.underlying T = some kd := by
      rcases leaf_shape h with ⟨k, hu, _⟩ | ⟨hu, _⟩ | ⟨hu, _⟩ <;> exact ⟨_, hu⟩
    rcases find_now hu h hx es ms 0 ha with ⟨a1, a2⟩ | ⟨j, p, e, a1, a2, a3, a4, a5, a6⟩
    · exact .inl ⟨a1, fun w => MapKept.run_findKey hu a2⟩
    · exact .inr ⟨j, p, e, a1, a2, a3, a4, a5, fun w => MapKept.run_findKey hu (by rw [Nat.zero_add] at a6; exact a6)⟩
/-- Data as a value of a map. -/
def pvE (ag : Bool) (t : Ty) (x : t.T) : PV := match ag with
  | true => .agg (toCV t x)
  | false => match toCV t x with | [c] => .c c | _ => .c .junk
theorem pvE_ok {ρ : Env} {ag : Bool} {t : Ty} {x : t.T} {v : Value} (h : EntIs π ag t x v) : DenP π ρ (pvE ag t x) v := by
  obtain ⟨cs, h1, h2⟩ := h
  cases ag with
  | true => simp only at h2; subst h2; exact ⟨cs, rfl, toCV_ok t x cs h1⟩
  | false =>
    simp only at h2
    subst h2
    have h3 := toCV_ok (ρ := ρ) t x [v] h1
    unfold pvE
    simp only
    split
    · rename_i c hc; rw [hc] at h3; exact h3.1
    · trivial
/-- The data of a key, or of what is put. -/
def dataOf (ag : Bool) (t : Ty) : PV → Option t.T
  | .agg cs => match ag, fromCV t cs with | true, some (x, []) => some x | _, _ => none
  | .c c => match ag, fromCV t [c] with | false, some (x, []) => some x | _, _ => none
  | _ => none
theorem dataOf_ok {ρ : Env} {ag : Bool} {t : Ty} {p : PV} {x : t.T} {v : Value} (hp : DenP π ρ p v) (h : dataOf ag t p = some x) : EntIs π ag t x v := by
  unfold dataOf at h
  split at h
  · rename_i cs
    split at h
    · rename_i y hy
      cases h
      obtain ⟨vs, rfl, hv⟩ := hp
      obtain ⟨v1, v2, h1, h2, h3⟩ := fromCV_ok t _ _ _ _ hv hy
      cases v2 with
      | nil => rw [List.append_nil] at h1; subst h1; exact ⟨_, h2, rfl⟩
      | cons _ _ => exact h3.elim
    · cases h
  · rename_i c
    split at h
    · rename_i y hy
      cases h
      obtain ⟨v1, v2, h1, h2, h3⟩ := fromCV_ok t [c] [v] _ _ ⟨hp, trivial⟩ hy
      cases v2 with
      | nil => rw [List.append_nil] at h1; subst h1; exact ⟨_, h2, rfl⟩
      | cons _ _ => exact h3.elim
    · cases h
  · cases h
def zeroT (P : Program) (T : TypeId) (ag : Bool) (t : Ty) : Option t.T := match P.info? T with
  | some i => match i.zero with
    | some z => match constP z with
      | some p => dataOf ag t p
      | none => none
    | none => none
  | none => none
theorem zeroT_ok {T : TypeId} {ag : Bool} {t : Ty} {x : t.T} (h : zeroT P T ag t = some x) : ∃ v, (∀ w : World, (zeroValue T).run P w = .ok v w) ∧ EntIs π ag t x v := by
  unfold zeroT at h
  split at h
  · rename_i i hi
    split at h
    · rename_i z hz
      split at h
      · rename_i p hp
        exact ⟨z, fun w => by simp [zeroValue, typeInfo, hi, hz], dataOf_ok (ρ := fun _ => none) (constP_ok hp) h⟩
      · cases h
    · cases h
  · cases h
def lookupV (P : Program) (s : SS) (T : TypeId) (m k : PV) : Option (PV × Bool × PV) :=
  match m with
  | .c (.mp b) => match nth s.hp b, P.underlying T with
    | some (.map ka kt va vt es), some (.map kT eT) => bif keyK P kT ka kt then
        (match dataOf ka kt k, zeroT P eT va vt with
        | some x, some z => some (pvE va vt ((lookM x es).getD z), (lookM x es).isSome, .c .junk)
        | _, _ => none)
      else none
    | _, _ => none
  | _ => none
theorem lookupV_ok {ρ : Env} {s : SS} {a : Act} {w : World} (S : Sat π ρ s a w) {T : TypeId} {m k : PV} {vm vk : Value} (hm : DenP π ρ m vm) (hk : DenP π ρ k vk) {r j : PV} {is : Bool} (h : lookupV P s T m k = some (r, is, j)) :
    ∃ v, DenP π ρ r v ∧ ∀ w', Alike (pz false π) ρ s.hp w w' → (Instr.lookup T vm vk false).run P w' = .ok v w' ∧ (Instr.lookup T vm vk true).run P w' = .ok (.tuple #[v, .bool is]) w' := by
  unfold lookupV at h
  split at h
  · rename_i b
    split at h
    · rename_i ka kt va vt es kT eT hb hT
      cases hkk : keyK P kT ka kt with
      | false => rw [hkk] at h; cases h
      | true =>
        rw [hkk] at h
        simp only [cond_true] at h
        split at h
        · rename_i x z hx hz
          cases h
          rw [nth_eq] at hb
          obtain ⟨g, ms, clock, h1, h2, h3⟩ := S.hs.items b _ hb
          obtain ⟨g', o', n', h4, rfl⟩ := hm
          rw [h1] at h4
          cases h4
          have hkx := dataOf_ok hk hx
          obtain ⟨zv, hzv, hz2⟩ := zeroT_ok (π := π) hz
          have hobj : ∀ w', Alike (pz false π) ρ s.hp w w' → w'.heap[g]? = some (.map ms clock) := fun w' hw => (hw g (.inr ⟨b, _, hb, by simp, own_main h1⟩)).trans h2
          have chk := fun (e : Bool) (w' : World) => key_check hkk hkx e w'
          rcases find_key hkk hkx h3 with ⟨a1, a2⟩ | ⟨j, p, e, a1, a2, a3, a4, a5, a6⟩
          · refine ⟨zv, by rw [a1]; exact pvE_ok hz2, fun w' hw => ?_⟩
            have hg := MapKept.run_getObj_map (P := P) (hobj w' hw)
            rw [a1]
            simp [Instr.lookup, run_underlying hT, hg, chk, a2, hzv]
          · obtain ⟨e', he', hR⟩ := all2_get h3 j p a1
            rw [a2] at he'
            cases he'
            refine ⟨e.val, by rw [a4]; exact pvE_ok hR.2, fun w' hw => ?_⟩
            have hg := MapKept.run_getObj_map (P := P) (hobj w' hw)
            rw [a4]
            simp [Instr.lookup, run_underlying hT, hg, chk, a6]
        · cases h
    · cases h
  · cases h
/-! ### what is put -/
theorem rep_unique : ∀ (t : Ty) (x : t.T) (cs ds : List Value), t.key = true → Rep π t x cs → Rep π t x ds → cs = ds
  | .int k, x, cs, ds, _, h1, h2 => by simp only [Rep] at h1 h2; rw [h1, h2]
  | .bool, x, cs, ds, _, h1, h2 => by simp only [Rep] at h1 h2; rw [h1, h2]
  | .str, x, cs, ds, _, h1, h2 => by simp only [Rep] at h1 h2; rw [h1.1, h2.1]
  | .unit, x, cs, ds, _, h1, h2 => by simp only [Rep] at h1 h2; rw [h1, h2]
  | .prod a b, x, cs, ds, h, h1, h2 => by
    simp only [Ty.key, Bool.and_eq_true] at h
    obtain ⟨c1, d1, rfl, h3, h4⟩ := h1
    obtain ⟨c2, d2, rfl, h5, h6⟩ := h2
    rw [rep_unique a _ _ _ h.1 h3 h5, rep_unique b _ _ _ h.2 h4 h6]
  | .row _, _, _, _, h, _, _ => by simp [Ty.key] at h
  | .fix _, _, _, _, h, _, _ => by simp [Ty.key] at h
theorem leaf_key {T : TypeId} {t : Ty} (h : leafK P T t = true) : t.key = true := by
  rcases leaf_shape h with ⟨k, _, rfl⟩ | ⟨_, rfl⟩ | ⟨_, rfl⟩ <;> rfl
theorem fld_key : ∀ (fs : List Field) (t : Ty) (off : Nat), fldK P fs t off = true → t.key = true
  | [], t, off, h => by simp [fldK] at h
  | [f], t, off, h => by simp only [fldK, Bool.and_eq_true] at h; exact leaf_key h.2
  | f :: g :: r, .prod a b, off, h => by
    simp only [fldK, Bool.and_eq_true] at h
    simp only [Ty.key, leaf_key h.1.2, fld_key (g :: r) b _ h.2, Bool.and_self]
  | f :: g :: r, .int _, _, h => by simp [fldK] at h
  | f :: g :: r, .bool, _, h => by simp [fldK] at h
  | f :: g :: r, .str, _, h => by simp [fldK] at h
  | f :: g :: r, .unit, _, h => by simp [fldK] at h
  | f :: g :: r, .row _, _, h => by simp [fldK] at h
  | f :: g :: r, .fix _, _, h => by simp [fldK] at h
theorem key_key {T : TypeId} {ag : Bool} {t : Ty} (h : keyK P T ag t = true) : t.key = true := by
  unfold keyK at h
  cases ag with
  | false => exact leaf_key h
  | true =>
    simp only at h
    split at h
    · simp only [Bool.and_eq_true] at h; exact fld_key _ _ _ h.2
    · cases h
theorem same_cells (n : Nat) : ∀ (t : Ty) (x : t.T) (cs : List Value), t.key = true → Rep π t x cs → ∀ v ∈ cs, Instr.sameBits n v v = true
  | .int k, x, cs, _, h, v, hv => by simp only [Rep] at h; subst h; simp at hv; subst hv; cases n <;> simp [Instr.sameBits]
  | .bool, x, cs, _, h, v, hv => by simp only [Rep] at h; subst h; simp at hv; subst hv; cases n <;> simp [Instr.sameBits]
  | .str, x, cs, _, h, v, hv => by obtain ⟨rfl, _⟩ := h; simp at hv; subst hv; cases n <;> simp [Instr.sameBits, MapKept.bytes_beq]
  | .unit, x, cs, _, h, v, hv => by simp only [Rep] at h; subst h; simp at hv
  | .prod a b, x, cs, hk, h, v, hv => by
    simp only [Ty.key, Bool.and_eq_true] at hk
    obtain ⟨c, d, rfl, h1, h2⟩ := h
    rcases List.mem_append.1 hv with hv | hv
    · exact same_cells n a _ _ hk.1 h1 v hv
    · exact same_cells n b _ _ hk.2 h2 v hv
  | .row _, _, _, h, _, _, _ => by simp [Ty.key] at h
  | .fix _, _, _, h, _, _, _ => by simp [Ty.key] at h
theorem key_same {ag : Bool} {t : Ty} (hk : t.key = true) {x : t.T} {u v : Value} (h1 : EntIs π ag t x u) (h2 : EntIs π ag t x v) : u = v ∧ Instr.sameBits 10000 v v = true := by
  obtain ⟨cs, a1, a2⟩ := h1
  obtain ⟨ds, b1, b2⟩ := h2
  have e := rep_unique t x cs ds hk a1 b1
  subst e
  cases ag with
  | false =>
    simp only at a2 b2
    subst a2
    simp only [List.cons.injEq, and_true] at b2
    subst b2
    exact ⟨rfl, same_cells _ t x _ hk a1 _ (by simp)⟩
  | true =>
    simp only at a2 b2
    subst a2 b2
    refine ⟨rfl, ?_⟩
    have := same_cells (π := π) 9999 t x cs hk a1
    have hz : ∀ l : List Value, (∀ v ∈ l, Instr.sameBits 9999 v v = true) → ((l.zip l).all fun (x, y) => Instr.sameBits 9999 x y) = true := by
      intro l
      induction l with
      | nil => intro _; rfl
      | cons a r ih => intro h; simp only [List.zip_cons_cons, List.all_cons, Bool.and_eq_true]; exact ⟨h a (by simp), ih (fun v hv => h v (by simp [hv]))⟩
    rw [show (10000 : Nat) = 9999 + 1 from rfl, Instr.sameBits]
    simp only [beq_self_eq_true, Bool.true_and]
    exact hz _ this
theorem all2_set' {α β : Type} {R : α → β → Prop} {f : β → β} {b : β} : ∀ {l : List α} {m : List β} (i : Nat) (a : α), All2 R l m → m[i]? = some b → R a (f b) → All2 R (l.set i a) (m.modify i f)
  | [], [], _, _, _, h, _ => by simp at h
  | _ :: _, c :: _, 0, a, h, hi, hf => by simp at hi; subst hi; exact ⟨hf, h.2⟩
  | _ :: l, _ :: m, i + 1, a, h, hi, hf => by simp only [List.getElem?_cons_succ] at hi; exact ⟨h.1, all2_set' i a h.2 hi hf⟩
  | [], _ :: _, _, _, h, _, _ => h.elim
  | _ :: _, [], _, _, h, _, _ => h.elim
theorem setM_none {kt : Ty} {α : Type} {k : kt.T} {v : α} : ∀ {es : List (kt.T × α)}, lookM k es = none → setM k v es = es ++ [(k, v)]
  | [], _ => rfl
  | (x, u) :: r, h => by
    simp only [lookM] at h
    split at h
    · cases h
    · rename_i hq
      simp only [setM, if_neg hq, setM_none h, List.cons_append]
def mapUpV (P : Program) (s : SS) (T : TypeId) (m k v : Option PV) (K : SS → Prop) : Prop :=
  match m, k, v with
  | some (.c (.mp b)), some k, some v => match nth s.hp b, P.underlying T with
    | some (.map ka kt va vt es), some (.map kT eT) => bif keyK P kT ka kt then
        (match dataOf ka kt k, dataOf va vt v with
        | some x, some y => K { s with hp := s.hp.set b (.map ka kt va vt (setM x y es)) }
        | _, _ => False)
      else False
    | _, _ => False
  | _, _, _ => False
theorem mapUpV_ok {N : Nat} {ρ : Env} {s : SS} {a : Act} {w : World} (S : Sat π ρ s a w) {T : TypeId} {m k v : Option PV} {vm vk vv : Value} (hm : ∀ p, m = some p → DenP π ρ p vm) (hk : ∀ p, k = some p → DenP π ρ p vk) (hv : ∀ p, v = some p → DenP π ρ p vv) {K : SS → Prop} (h : mapUpV P s T m k v K) :
    ∃ w', (Instr.mapUpdate T vm vk vv).run P w = .ok () w' ∧ Out N P π ρ s w K a w' := by
  unfold mapUpV at h
  split at h
  · rename_i b pk pv
    split at h
    · rename_i ka kt va vt es kT eT hb hT
      cases hkk : keyK P kT ka kt with
      | false => rw [hkk] at h; exact h.elim
      | true =>
        rw [hkk] at h
        simp only [cond_true] at h
        split at h
        · rename_i x y hx hy
          rw [nth_eq] at hb
          have hbl := (List.getElem?_eq_some_iff.1 hb).1
          obtain ⟨g, ms, clock, h1, h2, h3⟩ := S.hs.items b _ hb
          obtain ⟨g', o', n', h4, rfl⟩ := hm _ rfl
          rw [h1] at h4
          cases h4
          have hkx := dataOf_ok (hk _ rfl) hx
          have hvy := dataOf_ok (hv _ rfl) hy
          have hget := MapKept.run_getObj_map (P := P) h2
          have fin : ∀ ms' clock', (Instr.mapUpdate T (.map (some g)) vk vv).run P w = .ok () { w with heap := w.heap.setIfInBounds g (.map ms' clock') } → All2 (EntR π ka kt va vt) (setM x y es) ms'.toList → ∃ w', (Instr.mapUpdate T (.map (some g)) vk vv).run P w = .ok () w' ∧ Out N P π ρ s w K a w' := by
            intro ms' clock' hrun hall
            have hset := MapKept.heap_set (o' := .map ms' clock') h2
            have hw : ∀ q, q < w.heap.size → ¬ own (ρ b) q → ({ w with heap := w.heap.setIfInBounds g (.map ms' clock') } : World).heap[q]? = w.heap[q]? := fun q _ hq => hset.2 q (fun e => hq (by rw [e]; exact own_main h1))
            exact ⟨_, hrun, π, ρ, _, sat_heap S (hsat_put S.hs b (.map ka kt va vt (setM x y es)) (by simp) hw hbl ⟨g, ms', clock', h1, hset.1, hall⟩) (fun _ _ h => h) (fun _ _ h => h), step_put S.hs b hbl (by simp) (keep_set b _ (fun x κ hh hκ => by rw [hb] at hh; cases hh; exact hκ)) rfl rfl rfl (by simp) hw, h⟩
          rcases find_key hkk hkx h3 with ⟨a1, a2⟩ | ⟨j, p, e, a1, a2, a3, a4, a5, a6⟩
          · refine fin (ms.push { key := vk, val := vv, born := clock }) (clock + 1) ?_ ?_
            · simp [Instr.mapUpdate, run_underlying hT, hget, key_check hkk hkx, a2, MapKept.run_setObj_map _ h2]
            · rw [setM_none a1, Array.toList_push]
              exact all2_append h3 ⟨⟨hkx, hvy⟩, trivial⟩
          · obtain ⟨e', he', hR⟩ := all2_get h3 j p a1
            rw [a2] at he'
            cases he'
            have hxe := (eqT_iff kt (key_key hkk) _ _).1 a3
            have hR1 := hR.1
            rw [← hxe] at hR1
            obtain ⟨e1, e2⟩ := key_same (key_key hkk) hR1 hkx
            have hms : ms[j]? = some e := by rw [← Array.getElem?_toList]; exact a2
            refine fin (ms.modify j fun e => { e with key := vk, val := vv }) clock ?_ ?_
            · have hst : (Instr.keyThatStays e.key vk).run P w = .ok vk w := by rw [e1]; simp [Instr.keyThatStays, e2]
              simp [Instr.mapUpdate, run_underlying hT, hget, key_check hkk hkx, a6, hms, hst, MapKept.run_setObj_map _ h2]
            · rw [a5, Array.toList_modify]
              refine all2_set' j _ h3 a2 ⟨?_, hvy⟩
              simp only
              rw [← hxe]
              exact hkx
        · exact h.elim
    · exact h.elim
  · exact h.elim
/-- A new map. -/
def makeMapP (P : Program) (s : SS) (T : TypeId) (dst : Option Nat) (K : SS → Prop) : Prop :=
  match P.underlying T with
  | some (.map kT eT) => match tyId P 9 kT, isAggB P kT, tyId P 9 eT, isAggB P eT with
    | some kt, some ka, some vt, some va => putK { s with hp := s.hp ++ [.map ka kt va vt []] } dst (.p (.c (.mp s.hp.length))) K
    | _, _, _, _ => False
  | _ => False
theorem makeMapP_ok {N : Nat} {ρ : Env} {s : SS} {a : Act} {w : World} (S : Sat π ρ s a w) {T : TypeId} {dst : Option Nat} {K : SS → Prop} (h : makeMapP P s T dst K) : ∃ u w', (Instr.makeMap T none).run P w = .ok u w' ∧ Out N P π ρ s w K (a.put dst u) w' := by
  unfold makeMapP at h
  split at h
  · rename_i kT eT hT
    split at h
    · rename_i kt ka vt va _ _ _ _
      have hup := upE_new S.hs (some (w.heap.size, 0, 0, []))
      have H := hsat_new (w' := w.alloc (.map #[] 0)) S.hs (.map ka kt va vt []) (some (w.heap.size, 0, 0, [])) (by simp) (fun g hg => heap_alloc_old w _ g hg) (fun g h => by rw [own_one h]; exact ⟨Nat.le_refl _, by simp⟩) ⟨w.heap.size, #[], 0, updE_same _ _ _, heap_new _, trivial⟩
      have S' := sat_heap S H (fun _ _ h => h) hup
      obtain ⟨s', g1, g2, g3⟩ := putK_ok (u := .map (some w.heap.size)) (x := .c (.mp s.hp.length)) S' ⟨w.heap.size, 0, (0, []), updE_same _ _ _, rfl⟩ h
      refine ⟨_, _, ?_, π, _, s', g1, by rw [g3]; exact step_new S.hs _ _ _ (fun g h => by rw [own_one h]; exact Nat.le_refl _), g2⟩
      simp [Instr.makeMap, newObj]
      rfl
    · exact h.elim
  · exact h.elim
end
end Go.Proofs.Ytkpepieepdmjpaa.Sx
