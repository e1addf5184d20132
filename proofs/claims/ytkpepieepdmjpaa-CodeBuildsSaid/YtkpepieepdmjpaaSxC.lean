/- A machine of abstract states over the model, part C: operations that only read. No condition. -/
import Derived.Test.YtkpepieepdmjpaaSxB
namespace Go.Proofs.Ytkpepieepdmjpaa.Sx
open Go
set_option linter.unusedVariables false
set_option linter.unusedSimpArgs false

def constC : Value → Option CV
  | .int k n => some (.int k n)
  | .bool b => some (.bool b)
  | .string s => bif Nat.ble s.size maxI then some (.str s) else none
  | .pointer none => some .nilp
  | .slice none 0 0 => some .nils
  | .nilIface => some .nili
  | .map none => some .nilm
  | .nilFunc => some .nilf
  | _ => none
def constCs : List Value → Option (List CV)
  | [] => some []
  | v :: r => match constC v with
    | some c => match constCs r with
      | some cs => some (c :: cs)
      | none => none
    | none => none
def constP : Value → Option PV
  | .agg vs => match constCs vs.toList with
    | some cs => some (.agg cs)
    | none => none
  | v => match constC v with
    | some c => some (.c c)
    | none => none
theorem constC_ok {π : Pers} {ρ : Env} : ∀ {v : Value} {c : CV}, constC v = some c → DenC π ρ c v ∧ v.oneCell' = true := by
  intro v c h
  unfold constC at h
  split at h
  · cases h; exact ⟨rfl, rfl⟩
  · cases h; exact ⟨rfl, rfl⟩
  · rename_i s
    cases hb : Nat.ble s.size maxI with
    | true => rw [hb] at h; cases h; exact ⟨⟨rfl, Nat.le_of_ble_eq_true hb⟩, rfl⟩
    | false => rw [hb] at h; cases h
  · cases h; exact ⟨rfl, rfl⟩
  · cases h; exact ⟨rfl, rfl⟩
  · cases h; exact ⟨rfl, rfl⟩
  · cases h; exact ⟨rfl, rfl⟩
  · cases h; exact ⟨rfl, rfl⟩
  · cases h
theorem constCs_ok {π : Pers} {ρ : Env} : ∀ {vs : List Value} {cs : List CV}, constCs vs = some cs → All2 (DenC π ρ) cs vs ∧ ∀ u ∈ vs, u.oneCell' = true
  | [], cs, h => by simp [constCs] at h; subst h; exact ⟨trivial, by simp⟩
  | v :: r, cs, h => by
    simp only [constCs] at h
    split at h
    · rename_i c hc
      split at h
      · rename_i cs' hcs
        cases h
        obtain ⟨h1, h2⟩ := constC_ok (π := π) (ρ := ρ) hc
        obtain ⟨h3, h4⟩ := constCs_ok (π := π) (ρ := ρ) hcs
        refine ⟨⟨h1, h3⟩, fun u hu => ?_⟩
        rcases List.mem_cons.1 hu with rfl | hu
        · exact h2
        · exact h4 u hu
      · cases h
    · cases h
theorem constP_ok {π : Pers} {ρ : Env} {v : Value} {c : PV} (h : constP v = some c) : DenP π ρ c v := by
  unfold constP at h
  split at h
  · rename_i vs
    split at h
    · rename_i cs hcs
      cases h
      exact ⟨vs.toList, by simp, (constCs_ok hcs).1⟩
    · cases h
  · split at h
    · rename_i c' hc
      cases h
      exact (constC_ok hc).1
    · cases h

def memG : List (Nat × Bool) → Nat → Bool → Bool
  | [], _, _ => false
  | (j, b) :: r, i, c => (Nat.beq j i && (b == c)) || memG r i c
/-- What an operand holds, where the guards gs hold. -/
def evL (s : SS) (gs : List (Nat × Bool)) : Operand → Option PV
  | .tmp t => match lk s.fr t with
    | some (.p x) => some x
    | some (.gd j b x) => bif memG gs j b then some x else none
    | _ => none
  | .const v => constP v
  | .func f => some (.c (.func f))
  | .global _ => none
def GH (gs : List (Nat × Bool)) (T : Array Value) : Prop := ∀ j b, memG gs j b = true → T[j]? = some (.bool b)
theorem gh_nil (T : Array Value) : GH [] T := fun j b h => by cases h
theorem gh_cons {gs : List (Nat × Bool)} {T : Array Value} {d : Nat} {b : Bool} (h : GH gs T) (hd : T[d]? = some (.bool b)) : GH ((d, b) :: gs) T := by
  intro j c hj
  simp only [memG, Bool.or_eq_true, Bool.and_eq_true, beq_iff_eq] at hj
  rcases hj with ⟨h1, h2⟩ | hj
  · have := Nat.eq_of_beq_eq_true h1; subst this h2; exact hd
  · exact h j c hj
theorem evL_ok {π : Pers} {ρ : Env} {s : SS} {a : Act} {w : World} (S : Sat π ρ s a w) {gs : List (Nat × Bool)} (hg : GH gs a.tmps) {x : Operand} {c : PV} (h : evL s gs x = some c) : DenP π ρ c (a.eval x) := by
  cases x with
  | tmp t =>
    simp only [evL] at h
    split at h
    · rename_i y hy
      cases h
      obtain ⟨v, h1, h2⟩ := S.fs t _ hy
      simpa [Act.eval, Array.getD_eq_getD_getElem?, h1] using h2
    · rename_i j b y hy
      cases hb : memG gs j b with
      | false => rw [hb] at h; cases h
      | true =>
        rw [hb] at h
        cases h
        obtain ⟨v, h1, h2⟩ := S.fs t _ hy
        rcases h2 with ⟨_, h2⟩ | ⟨h2, _⟩
        · simpa [Act.eval, Array.getD_eq_getD_getElem?, h1] using h2
        · exact absurd (hg j b hb) h2
    · cases h
  | const v => exact constP_ok h
  | func f => simp only [evL, Option.some.injEq] at h; subst h; rfl
  | global g => cases h

abbrev PR := Option (List Prop × List Prop × PV)
def obl : List Prop → Prop → Prop
  | [], K => K
  | p :: ps, K => p ∧ obl ps K
def fct : List Prop → Prop → Prop
  | [], K => K
  | p :: ps, K => p → fct ps K
def allP : List Prop → Prop
  | [] => True
  | p :: ps => p ∧ allP ps
theorem obl_out {K : Prop} : ∀ {ps : List Prop}, obl ps K → allP ps ∧ K
  | [], h => ⟨trivial, h⟩
  | _ :: _, h => ⟨⟨h.1, (obl_out h.2).1⟩, (obl_out h.2).2⟩
theorem fct_out {K : Prop} : ∀ {ps : List Prop}, fct ps K → allP ps → K
  | [], h, _ => h
  | _ :: _, h, hp => fct_out (h hp.1) hp.2

def strEq (a b : ByteArray) : Bool := a.toList == b.toList
theorem strEq_iff (a b : ByteArray) : strEq a b = true ↔ a = b := by
  unfold strEq
  rw [beq_iff_eq, ByteArray.toList_eq, ByteArray.toList_eq]
  obtain ⟨⟨x⟩⟩ := a
  obtain ⟨⟨y⟩⟩ := b
  simp
def strLt (a b : ByteArray) : Bool := Op.bytesLess a.toList b.toList
def isPtr (P : Program) (t : TypeId) : Bool := match P.underlying t with | some (.pointer _) => true | _ => false
def isSl (P : Program) (t : TypeId) : Bool := match P.underlying t with | some (.slice _) => true | _ => false
def isBl (P : Program) (t : TypeId) : Bool := match P.underlying t with | some .bool => true | _ => false
def isIf (P : Program) (t : TypeId) : Bool := match P.underlying t with | some (.interface _) => true | _ => false
def isSt (P : Program) (t : TypeId) : Bool := match P.underlying t with | some .string => true | _ => false
def isIn (P : Program) (t : TypeId) : Bool := match P.underlying t with | some (.int _) => true | _ => false
/-- '==' of two cells of a type. -/
def eqC (P : Program) (t : TypeId) : CV → CV → Option Bool
  | .int k a, .int k' b => bif isIn P t && decide (k = k') then some (a == b) else none
  | .bool a, .bool b => bif isBl P t then some (a == b) else none
  | .str a, .str b => bif isSt P t then some (strEq a b) else none
  | .nilp, .nilp => bif isPtr P t then some true else none
  | .nilp, .ptr _ _ => bif isPtr P t then some false else none
  | .nilp, .rptr _ _ _ _ => bif isPtr P t then some false else none
  | .nilp, .eptr _ _ _ _ => bif isPtr P t then some false else none
  | .ptr _ _, .nilp => bif isPtr P t then some false else none
  | .rptr _ _ _ _, .nilp => bif isPtr P t then some false else none
  | .eptr _ _ _ _, .nilp => bif isPtr P t then some false else none
  | .nils, .nils => bif isSl P t then some true else none
  | .nili, .nili => bif isIf P t then some true else none
  | _, _ => none
theorem eqC_ok {P : Program} {π : Pers} {ρ : Env} {t : TypeId} {x y : CV} {u v : Value} {r : Bool} (hx : DenC π ρ x u) (hy : DenC π ρ y v) (h : eqC P t x y = some r) (d : Nat) (w : World) : (Op.equalIn (d + 1) t u v).run P w = .ok r w := by
  unfold eqC at h
  split at h
  · rename_i k a k' b
    cases hb : (isIn P t && decide (k = k')) with
    | false => rw [hb] at h; cases h
    | true =>
      rw [hb] at h
      cases h
      simp only [Bool.and_eq_true, decide_eq_true_eq, isIn] at hb
      obtain ⟨h1, rfl⟩ := hb
      split at h1
      · rename_i k'' hu
        simp only [DenC] at hx hy
        subst hx hy
        exact run_equalIn_int w d t _ k'' a b hu
      · cases h1
  · rename_i a b
    cases hb : isBl P t with
    | false => rw [hb] at h; cases h
    | true =>
      rw [hb] at h
      cases h
      simp only [isBl] at hb
      split at hb
      · rename_i hu
        simp only [DenC] at hx hy
        subst hx hy
        exact run_equalIn_bool' w d t a b hu
      · cases hb
  · rename_i a b
    cases hb : isSt P t with
    | false => rw [hb] at h; cases h
    | true =>
      rw [hb] at h
      cases h
      simp only [isSt] at hb
      split at hb
      · rename_i hu
        obtain ⟨hx, _⟩ := hx
        obtain ⟨hy, _⟩ := hy
        subst hx hy
        exact run_equalIn_string w d t a b hu
      · cases hb
  all_goals try
    (cases hb : isPtr P t with
    | false => rw [hb] at h; cases h
    | true =>
      rw [hb] at h
      cases h
      simp only [isPtr] at hb
      split at hb
      · rename_i hu
        first
        | (simp only [DenC] at hx hy; subst hx hy; simp [Op.equalIn, run_underlying hu]; done)
        | (obtain ⟨g, o, n, _, hx⟩ := hx; simp only [DenC] at hy; subst hx hy; simp [Op.equalIn, run_underlying hu]; done)
        | (obtain ⟨g, o, n, _, hy⟩ := hy; simp only [DenC] at hx; subst hx hy; simp [Op.equalIn, run_underlying hu]; done)
        | (obtain ⟨g, o, n, _, _, hx⟩ := hx; simp only [DenC] at hy; subst hx hy; simp [Op.equalIn, run_underlying hu]; done)
        | (obtain ⟨g, o, n, _, _, hy⟩ := hy; simp only [DenC] at hx; subst hx hy; simp [Op.equalIn, run_underlying hu]; done)
      · cases hb)
  · cases hb : isSl P t with
    | false => rw [hb] at h; cases h
    | true =>
      rw [hb] at h
      cases h
      simp only [isSl] at hb
      split at hb
      · rename_i hu
        simp only [DenC] at hx hy
        subst hx hy
        simp [Op.equalIn, run_underlying hu]
      · cases hb
  · cases hb : isIf P t with
    | false => rw [hb] at h; cases h
    | true =>
      rw [hb] at h
      cases h
      simp only [isIf] at hb
      split at hb
      · rename_i hu
        simp only [DenC] at hx hy
        subst hx hy
        simp [Op.equalIn, run_underlying hu]
      · cases hb
  · cases h

/-! ### structs: parts, '==' -/
def isAggB (P : Program) (t : TypeId) : Option Bool := match P.underlying t with
  | some (.struct _) => some true
  | some (.array _ _) => some true
  | some _ => some false
  | none => none
def szOf (P : Program) (t : TypeId) : Option Nat := match P.info? t with | some i => some i.size | none => none
def segC (l : List CV) (o n : Nat) : List CV := (l.drop o).take n
def partC (P : Program) (t : TypeId) (cs : List CV) (off : Nat) : Option PV :=
  match isAggB P t with
  | some true => match szOf P t with
    | some n => some (.agg (segC cs off n))
    | none => none
  | some false => match cs[off]? with
    | some c => some (.c c)
    | none => none
  | none => none
theorem run_isAgg {P : Program} {t : TypeId} {b : Bool} (h : isAggB P t = some b) (w : World) : (isAgg t).run P w = .ok b w := by
  unfold isAggB at h
  split at h <;> simp only [Option.some.injEq, reduceCtorEq] at h <;> subst h
  · rename_i hu; simp [isAgg, run_underlying hu]
  · rename_i hu; simp [isAgg, run_underlying hu]
  · rename_i d h1 h2 hu
    simp only [isAgg, Sem.run_bind, run_underlying hu, Result.andThen_ok]
    rfl
theorem run_sizeOf {P : Program} {t : TypeId} {n : Nat} (h : szOf P t = some n) (w : World) : (sizeOf t).run P w = .ok n w := by
  unfold szOf at h
  split at h
  · rename_i i hi; simp only [Option.some.injEq] at h; subst h; simp [sizeOf, typeInfo, hi]
  · cases h
theorem partC_ok {P : Program} {π : Pers} {ρ : Env} {t : TypeId} {cs : List CV} {vs : List Value} {off : Nat} {r : PV} (hc : All2 (DenC π ρ) cs vs) (h : partC P t cs off = some r) : ∃ v, (∀ w : World, (part t vs.toArray off).run P w = .ok v w) ∧ DenP π ρ r v := by
  unfold partC at h
  split at h
  · rename_i hb
    split at h
    · rename_i n hn
      cases h
      refine ⟨.agg (vs.toArray.extract off (off + n)), by simp [part, run_isAgg hb, run_sizeOf hn], (vs.drop off).take n, ?_, all2_take (all2_drop hc off) n⟩
      simp [List.extract_toArray, List.extract_eq_take_drop]
    · cases h
  · rename_i hb
    split at h
    · rename_i c hcc
      cases h
      obtain ⟨u, hu, hd⟩ := all2_get hc off c hcc
      exact ⟨u, by simp [part, run_isAgg hb, hu], hd⟩
    · cases h
  · cases h
def eqFs (P : Program) (E : TypeId → PV → PV → Option Bool) (xs ys : List CV) : List Field → Option Bool
  | [] => some true
  | f :: fs => bif f.name == "_" then eqFs P E xs ys fs else
    match partC P f.type xs f.offset, partC P f.type ys f.offset with
    | some a, some b => match E f.type a b, eqFs P E xs ys fs with
      | some r, some s => some (r && s)
      | _, _ => none
    | _, _ => none
def eqV (P : Program) : Nat → TypeId → PV → PV → Option Bool
  | 0, _, _, _ => none
  | d + 1, t, .c a, .c b => eqC P t a b
  | d + 1, t, .agg xs, .agg ys => match P.underlying t with
    | some (.struct fs) => bif P.stoodInHeld t then none else eqFs P (eqV P d) xs ys fs.toList
    | _ => none
  | _, _, _, _ => none
theorem eqFs_ok {P : Program} {π : Pers} {ρ : Env} {E : TypeId → PV → PV → Option Bool} {D : Nat} {xs ys : List CV} {us vs : List Value} (hx : All2 (DenC π ρ) xs us) (hy : All2 (DenC π ρ) ys vs) (w : World)
    (hE : ∀ t a b u v r, DenP π ρ a u → DenP π ρ b v → E t a b = some r → (Op.equalIn D t u v).run P w = .ok r w) : ∀ (fs : List Field) (r : Bool), eqFs P E xs ys fs = some r → (Op.eqFields D us.toArray vs.toArray fs).run P w = .ok r w
  | [], r, h => by simp only [eqFs, Option.some.injEq] at h; subst h; simp [Op.eqFields]
  | f :: fs, r, h => by
    simp only [eqFs] at h
    cases hn : (f.name == "_") with
    | true =>
      rw [hn] at h
      have := eqFs_ok hx hy w hE fs r h
      have hn' : ¬ (f.name ≠ "_") := by simpa using hn
      rw [Op.eqFields, if_neg hn']
      exact this
    | false =>
      rw [hn] at h
      simp only [cond_false] at h
      split at h
      · rename_i a b ha hb
        split at h
        · rename_i r1 s1 hr hs
          simp only [Option.some.injEq] at h
          subst h
          obtain ⟨u, hu, hdu⟩ := partC_ok hx ha
          obtain ⟨v, hv, hdv⟩ := partC_ok hy hb
          have he := hE _ _ _ _ _ _ hdu hdv hr
          have ih := eqFs_ok hx hy w hE fs s1 hs
          have hn' : f.name ≠ "_" := by simpa using hn
          rw [Op.eqFields]
          simp only [if_pos hn', Sem.run_bind, hu, hv, he, Result.andThen_ok]
          cases r1
          · simp
          · simpa using ih
        · cases h
      · cases h
theorem eqV_ok {P : Program} {π : Pers} {ρ : Env} (w : World) : ∀ (d m : Nat) (t : TypeId) (a b : PV) (u v : Value) (r : Bool), DenP π ρ a u → DenP π ρ b v → eqV P d t a b = some r → (Op.equalIn (d + m) t u v).run P w = .ok r w
  | 0, m, t, a, b, u, v, r, _, _, h => by simp [eqV] at h
  | d + 1, m, t, .c a, .c b, u, v, r, ha, hb, h => by
    rw [show d + 1 + m = (d + m) + 1 by omega]
    exact eqC_ok ha hb h _ w
  | d + 1, m, t, .agg xs, .agg ys, u, v, r, ⟨us, hu, hx⟩, ⟨vs, hv, hy⟩, h => by
    simp only [eqV] at h
    split at h
    · rename_i fs hf
      cases hp : P.stoodInHeld t with
      | true => rw [hp] at h; cases h
      | false =>
        rw [hp] at h
        simp only [cond_false] at h
        subst hu hv
        have hfo : P.fieldsOf t = fs := by simp [Program.fieldsOf, hf]
        rw [show d + 1 + m = (d + m) + 1 by omega, run_equalIn_struct (P := P) w (d + m) t _ _ (by rw [hfo]; exact hf) hp, hfo]
        exact eqFs_ok hx hy w (fun t a b u v r ha hb hr => eqV_ok w d m t a b u v r ha hb hr) _ _ h
    · cases h
  | d + 1, m, t, .c a, .agg ys, u, v, r, _, _, h => by simp [eqV] at h
  | d + 1, m, t, .agg xs, .c b, u, v, r, _, _, h => by simp [eqV] at h
  | d + 1, m, t, .clo f xs, b, u, v, r, _, _, h => by cases b <;> simp [eqV] at h
  | d + 1, m, t, .c a, .clo f xs, u, v, r, _, _, h => by simp [eqV] at h
  | d + 1, m, t, .agg a, .clo f xs, u, v, r, _, _, h => by simp [eqV] at h
end Go.Proofs.Ytkpepieepdmjpaa.Sx
