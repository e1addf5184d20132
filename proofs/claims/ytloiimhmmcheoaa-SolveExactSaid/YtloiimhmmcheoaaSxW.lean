/- The abstract machine: operations, regions, code, contracts, loops, rows that stay. No condition. -/
import Derived.Test.YtloiimhmmcheoaaSxV
import Derived.Deep.LoopGhost
import Derived.Still
import Derived.StillTail
import Derived.OrdersHeld
import Derived.WalkKit
import Derived.ProofKit
import Derived.OpenShut
import Derived.ShutString
import Derived.ChangeOld
import Derived.Below
import Derived.SizedLaws
import Derived.Carry
import Derived.Deep.Slices
import Derived.ChangeArms
import Derived.Deep.MidRow
import Derived.Laws.Bits64
namespace Go.Proofs.Ytloiimhmmcheoaa.Sx
open Go
set_option linter.unusedVariables false
set_option linter.unusedSimpArgs false

/-- From the state s on the code c runs, and comes to an end e in a state of which Q holds. -/
def W (N : Nat) (P : Program) (c : Code) (s : SS) (Q : Exit → SS → Prop) : Prop :=
  ∀ π ρ a w, Sat π ρ s a w → c.wp P (fun e a' w' => ∃ π' ρ' s', Sat π' ρ' s' a' w' ∧ Step N ρ s.hp w π ρ' s'.hp w' π' ∧ Q e s') a w
theorem W.mono {N : Nat} {P : Program} {c : Code} {s : SS} {Q Q' : Exit → SS → Prop} (h : W N P c s Q) (hq : ∀ e s', Q e s' → Q' e s') : W N P c s Q' :=
  fun π ρ a w S => wp_mono (h π ρ a w S) fun e a' w' ⟨π', ρ', s', h1, h2, h3⟩ => ⟨π', ρ', s', h1, h2, hq _ _ h3⟩

abbrev Gam := FuncId → Option (List Bool × Tr)
abbrev Lam := Nat → SS → (Exit → SS → Prop) → Prop
def evArgs (s : SS) : List Operand → Option (List PV)
  | [] => some []
  | x :: r => match evL s [] x, evArgs s r with
    | some p, some ps => some (p :: ps)
    | _, _ => none
theorem evArgs_ok {π : Pers} {ρ : Env} {s : SS} {a : Act} {w : World} (S : Sat π ρ s a w) : ∀ (l : List Operand) (ps : List PV), evArgs s l = some ps → All2 (DenP π ρ) ps (l.map a.eval)
  | [], ps, h => by simp only [evArgs, Option.some.injEq] at h; subst h; trivial
  | x :: r, ps, h => by
    simp only [evArgs] at h
    split at h
    · rename_i p ps' hp hps
      cases h
      exact ⟨evL_ok S (gh_nil _) hp, evArgs_ok S r ps' hps⟩
    · cases h
/-- '== nil', '!= nil' of a slice of which it isn't known. -/
def eqK (op : BinOp) (p : Prop) (K : Bool → Prop) : Prop :=
  match op with
  | .eql => ∀ b : Bool, (b = true → p) → K b
  | .neq => ∀ b : Bool, (b = true → p) → K (!b)
  | _ => False
def nilEq (P : Program) (s : SS) (op : BinOp) (t : TypeId) (x y : Option PV) (dst : Option Nat) (K : SS → Prop) : Prop :=
  match x, y with
  | some (.c (.row _ xs)), some (.c .nils) => bif isSl P t then eqK op (xs = []) (fun b => putK s dst (.p (.c (.bool b))) K) else False
  | some (.c (.view _ _ _ n)), some (.c .nils) => bif isSl P t then eqK op (n = 0) (fun b => putK s dst (.p (.c (.bool b))) K) else False
  | _, _ => False
theorem nilEq_ok {N : Nat} {P : Program} {π : Pers} {ρ : Env} {s : SS} {a : Act} {w : World} (S : Sat π ρ s a w) {op : BinOp} {t : TypeId} {x y : Option PV} {vx vy : Value} (hx : ∀ p, x = some p → DenP π ρ p vx) (hy : ∀ p, y = some p → DenP π ρ p vy) (ox oy : Operand) {dst : Option Nat} {K : SS → Prop} (h : nilEq P s op t x y dst K) :
    ∃ u, (do eqGuard op t ox oy vx vy; binOp op t vx vy : Sem Value).run P w = .ok u w ∧ Out N P π ρ s w K (a.put dst u) w := by
  have key : ∀ (A : Option Addr) (n c : Nat) (p : Prop), vx = .slice A n c → vy = .slice none 0 0 → (A.isNone = true → p) → isSl P t = true → eqK op p (fun b => putK s dst (.p (.c (.bool b))) K) →
      ∃ u, (do eqGuard op t ox oy vx vy; binOp op t vx vy : Sem Value).run P w = .ok u w ∧ Out N P π ρ s w K (a.put dst u) w := by
    intro A n c p h1 h2 h3 h4 h5
    subst h1 h2
    have hr : (Op.equal t (.slice A n c) (.slice none 0 0)).run P w = .ok A.isNone w := by
      simp only [isSl] at h4
      split at h4
      · rename_i e hu
        have : ∀ d, (Op.equalIn (d + 1) t (.slice A n c) (.slice none 0 0)).run P w = .ok A.isNone w := by
          intro d
          cases A <;> simp [Op.equalIn, run_underlying hu]
        exact this 9999
      · cases h4
    have hg : (eqGuard op t ox oy (.slice A n c) (.slice none 0 0)).run P w = .ok () w := run_eqGuard_c op t ox oy _ _ w (by simp) (by simp)
    unfold eqK at h5
    split at h5
    · obtain ⟨s', g1, g2, g3⟩ := putK_ok (x := .c (.bool A.isNone)) (u := .bool A.isNone) S rfl (h5 A.isNone h3)
      refine ⟨.bool A.isNone, ?_, π, ρ, s', g1, by rw [g3]; exact Step.refl _ _ _ _ _, g2⟩
      simp only [Sem.run_bind, hg, Result.andThen_ok, binOp, hr, Sem.run_pure]
    · obtain ⟨s', g1, g2, g3⟩ := putK_ok (x := .c (.bool (!A.isNone))) (u := .bool (!A.isNone)) S rfl (h5 A.isNone h3)
      refine ⟨.bool (!A.isNone), ?_, π, ρ, s', g1, by rw [g3]; exact Step.refl _ _ _ _ _, g2⟩
      simp only [Sem.run_bind, hg, Result.andThen_ok, binOp, hr, Sem.run_pure]
    · exact h5.elim
  unfold nilEq at h
  split at h
  · rename_i ty xs
    cases hb : isSl P t with
    | false => rw [hb] at h; exact h.elim
    | true =>
      rw [hb] at h
      obtain ⟨A, c, hv, _, _, h3⟩ := hx _ rfl
      have hvy := hy _ rfl
      simp only [DenP, DenC] at hvy
      refine key A xs.length c (xs = []) hv hvy (fun hA => ?_) hb h
      rcases h3 with h3 | ⟨g, o, vs, rfl, _⟩
      · exact h3
      · cases hA
  · rename_i ty b i n
    cases hb : isSl P t with
    | false => rw [hb] at h; exact h.elim
    | true =>
      rw [hb] at h
      have hvy := hy _ rfl
      simp only [DenP, DenC] at hvy
      rcases hx _ rfl with ⟨h0, A, hv⟩ | ⟨g, o, m, c, _, _, _, _, hv⟩
      · exact key A 0 0 (n = 0) hv hvy (fun _ => h0) hb h
      · exact key _ n c (n = 0) hv hvy (fun hA => by cases hA) hb h
  · exact h.elim
/-- A store; into a row of data: what was a slice of the call's own is a row that nobody writes any more. -/
def stoP (P : Program) (s : SS) (t : TypeId) (ad v : Option PV) (K : SS → Prop) : Prop :=
  match ad, v with
  | some (.c (.rptr ty b i j)), some p => match nth s.hp b with
    | some (.row _ _ _) => match brP s p with
      | some (ob, bs, p') => bif noCells s.hp bs then obl ob (storeP P (frzS bs s) t (some (renP (keepN bs) (.c (.rptr ty b i j)))) (some (renP (keepN bs) p')) K) else False
      | none => False
    | _ => storeP P s t ad v K
  | some (.c (.ptr b i)), some (.agg cs) => match brP s (.agg cs) with
    | some (ob, bs, p') => bif flatAt s.hp bs then storeP P s t ad v K else bif noCells s.hp bs then obl ob (storeP P (frzS bs s) t (some (renP (keepN bs) (.c (.ptr b i)))) (some (renP (keepN bs) p')) K) else storeP P s t ad v K
    | none => storeP P s t ad v K
  | _, _ => storeP P s t ad v K
theorem stoP_ok {N : Nat} {P : Program} {π : Pers} {ρ : Env} {s : SS} {a : Act} {w : World} (S : Sat π ρ s a w) {t : TypeId} {ad v : Option PV} {va vv : Value} (ha : ∀ p, ad = some p → DenP π ρ p va) (hv : ∀ p, v = some p → DenP π ρ p vv) {K : SS → Prop} (h : stoP P s t ad v K) :
    ∃ w', (Instr.storeAt t va vv).run P w = .ok () w' ∧ Out N P π ρ s w K a w' := by
  unfold stoP at h
  split at h
  · rename_i ty b i j p
    split at h
    · split at h
      · rename_i ob bs p' hbr
        cases hq : noCells s.hp bs with
        | false => rw [hq] at h; exact h.elim
        | true =>
          rw [hq] at h
          obtain ⟨ho, hK⟩ := obl_out h
          obtain ⟨π', ρ', S', St, hp', hc'⟩ := sat_frz (N := N) S hq
          have hd := hp' _ _ (brP_ok S (hv p rfl) hbr ho (fun x hx => hx))
          have had : DenP π' ρ' (renP (keepN bs) (.c (.rptr ty b i j))) va := hc' _ _ (show DenC π ρ (.rptr ty b i j) va from ha _ rfl)
          obtain ⟨w', h1, π2, ρ2, s2, h2, h3, h4⟩ := storeP_ok (N := N) S' (va := va) (vv := vv) (fun q hq => by cases hq; exact had) (fun q hq => by cases hq; exact hd) hK
          exact ⟨w', h1, π2, ρ2, s2, h2, St.trans h3, h4⟩
      · exact h.elim
    · exact storeP_ok S ha hv h
  · rename_i b i cs
    split at h
    · rename_i ob bs p' hbr
      cases hfl : flatAt s.hp bs with
      | true => rw [hfl] at h; exact storeP_ok S ha hv h
      | false =>
        rw [hfl] at h
        simp only [cond_false] at h
        cases hq : noCells s.hp bs with
        | false => rw [hq] at h; exact storeP_ok S ha hv h
        | true =>
          rw [hq] at h
          obtain ⟨ho, hK⟩ := obl_out h
          obtain ⟨π', ρ', S', St, hp', hc'⟩ := sat_frz (N := N) S hq
          have hd := hp' _ _ (brP_ok S (hv _ rfl) hbr ho (fun x hx => hx))
          have had : DenP π' ρ' (renP (keepN bs) (.c (.ptr b i))) va := hc' _ _ (show DenC π ρ (.ptr b i) va from ha _ rfl)
          obtain ⟨w', h1, π2, ρ2, s2, h2, h3, h4⟩ := storeP_ok (N := N) S' (va := va) (vv := vv) (fun q hq => by cases hq; exact had) (fun q hq => by cases hq; exact hd) hK
          exact ⟨w', h1, π2, ρ2, s2, h2, St.trans h3, h4⟩
    · exact storeP_ok S ha hv h
  · exact storeP_ok S ha hv h
def buiP (P : Program) (s : SS) (t : TypeId) (len : Nat) (ps : Option (List (Nat × PV))) (dst : Option Nat) (K : SS → Prop) : Prop :=
  match ps with
  | some ps => match brPs s ps with
    | some (ob, bs, ps') => bif noCells s.hp bs then obl ob (buildSlP P (frzS bs s) t len (some (renPs (keepN bs) ps')) dst K) else False
    | none => False
  | none => False
theorem buiP_ok {N : Nat} {P : Program} {π : Pers} {ρ : Env} {s : SS} {a : Act} {w : World} (S : Sat π ρ s a w) {t : TypeId} {len : Nat} {ps : Option (List (Nat × PV))} {parts : Array (Nat × Value)} (hp : ∀ l, ps = some l → All2 (fun p u => p.1 = u.1 ∧ DenP π ρ p.2 u.2) l parts.toList) {dst : Option Nat} {K : SS → Prop} (h : buiP P s t len ps dst K) :
    ∃ u w', (Instr.buildSlice t len parts).run P w = .ok u w' ∧ Out N P π ρ s w K (a.put dst u) w' := by
  unfold buiP at h
  split at h
  · rename_i l
    split at h
    · rename_i ob bs ps' hbr
      cases hq : noCells s.hp bs with
      | false => rw [hq] at h; exact h.elim
      | true =>
        rw [hq] at h
        obtain ⟨ho, hK⟩ := obl_out h
        obtain ⟨π', ρ', S', St, hp', hc'⟩ := sat_frz (N := N) S hq
        have hd := brPs_ok S (hp l rfl) hbr ho (fun x hx => hx)
        have hd' : All2 (fun p u => p.1 = u.1 ∧ DenP π' ρ' p.2 u.2) (renPs (keepN bs) ps') parts.toList := all2_map (fun p u h => ⟨h.1, hp' _ _ h.2⟩) hd
        obtain ⟨u, w', h1, π2, ρ2, s2, h2, h3, h4⟩ := buildSlP_ok (N := N) (a := a) S' (parts := parts) (fun l hl => by cases hl; exact hd') hK
        exact ⟨u, w', h1, π2, ρ2, s2, h2, St.trans h3, h4⟩
    · exact h.elim
  · exact h.elim
def lookP (P : Program) (s : SS) (T : TypeId) (m k : Option PV) (ok : Bool) (dst : Option Nat) (K : SS → Prop) : Prop :=
  match m, k with
  | some m, some k => match lookupV P s T m k with
    | some (r, is, _) => match ok with
      | true => putK s dst (.tup [r, .c (.bool is)]) K
      | false => putK s dst (.p r) K
    | none => False
  | _, _ => False
theorem lookP_ok {N : Nat} {P : Program} {π : Pers} {ρ : Env} {s : SS} {a : Act} {w : World} (S : Sat π ρ s a w) {T : TypeId} {m k : Option PV} {vm vk : Value} (hm : ∀ p, m = some p → DenP π ρ p vm) (hk : ∀ p, k = some p → DenP π ρ p vk) {ok : Bool} {dst : Option Nat} {K : SS → Prop} (h : lookP P s T m k ok dst K) :
    ∃ u, (Instr.lookup T vm vk ok).run P w = .ok u w ∧ Out N P π ρ s w K (a.put dst u) w := by
  unfold lookP at h
  split at h
  · rename_i pm pk
    split at h
    · rename_i r is j hl
      obtain ⟨v, hd, hr⟩ := lookupV_ok S (hm _ rfl) (hk _ rfl) hl
      obtain ⟨h1, h2⟩ := hr w (Alike.refl _ _ _ _)
      cases ok with
      | true =>
        obtain ⟨s', g1, g2, g3⟩ := putK_tup (u := .tuple #[v, .bool is]) (x := [r, .c (.bool is)]) S ⟨[v, .bool is], rfl, hd, rfl, trivial⟩ h
        exact ⟨_, h2, π, ρ, s', g1, by rw [g3]; exact Step.refl _ _ _ _ _, g2⟩
      | false =>
        obtain ⟨s', g1, g2, g3⟩ := putK_ok S hd h
        exact ⟨_, h1, π, ρ, s', g1, by rw [g3]; exact Step.refl _ _ _ _ _, g2⟩
    · exact h.elim
  · exact h.elim
/-- What a call calls: a function, and what is handed over behind the arguments. -/
def calleeOf : Option PV → Option (FuncId × List CV)
  | some (.c (.func f)) => some (f, [])
  | some (.clo f cs) => some (f, cs)
  | _ => none
theorem calleeOf_ok {π : Pers} {ρ : Env} {p : Option PV} {v : Value} (hp : ∀ q, p = some q → DenP π ρ q v) {f : FuncId} {cs : List CV} (h : calleeOf p = some (f, cs)) : ∃ vs : List Value, v = .func (.func f) #[] vs.toArray ∧ All2 (DenP π ρ) (cs.map .c) vs := by
  unfold calleeOf at h
  split at h
  · cases h; exact ⟨[], hp _ rfl, trivial⟩
  · cases h
    obtain ⟨vs, h1, h2⟩ := hp _ rfl
    exact ⟨vs, h1, all2_map (R' := DenP π ρ) (f := PV.c) (fun _ _ h => h) h2⟩
  · cases h
section
variable (P : Program) (Γ : Gam) (Λ : Lam)
def impOp (o : Oper) (s : SS) (K : SS → Prop) : Prop :=
  match o.op with
  | .move x => match x with
    | .tmp t => match lk s.fr t with
      | some (.tup l) => putK s o.dst (.tup l) K
      | _ => False
    | _ => False
  | .alloc t => allocP P s t o.dst K
  | .box t x => boxP s t (evL s [] x) o.dst K
  | .store t ad v => match o.dst with
    | none => stoP P s t (evL s [] ad) (evL s [] v) K
    | some _ => False
  | .lookup t m k ok => lookP P s t (evL s [] m) (evL s [] k) ok o.dst K
  | .mapUpdate t m k v => match o.dst with
    | none => mapUpV P s t (evL s [] m) (evL s [] k) (evL s [] v) K
    | some _ => False
  | .makeMap t none => makeMapP P s t o.dst K
  | .makeSlice t l c => makeP P s t (evL s [] l) (evL s [] c) o.dst K
  | .buildSlice t len parts => buiP P s t len (evParts s [] parts.toList) o.dst K
  | .build t parts => match buildP P t (evParts s [] parts.toList) with
    | some p => putK s o.dst (.p p) K
    | none => False
  | .binOp op t x y _ => nilEq P s op t (evL s [] x) (evL s [] y) o.dst K
  | .call c => match c.callee, c.args.toList, c.argTypes.toList with
    | .builtin .append, [d, x], [t1, t2] => appP P s t1 t2 (evL s [] d) (evL s [] x) o.dst K
    | .builtin .copy, [d, x], [t1, t2] => copyP P s t1 t2 (evL s [] d) (evL s [] x) o.dst K
    | .value x, args, _ => match calleeOf (evL s [] x) with
      | some (f, cs) => match P.funcs[f]?, evArgs s args with
        | some fn, some ps => bif fn.body.isSome && !(fn.name == "runtime.NumGoroutine") then (match Γ f with
          | some (own, tr) => callF s own tr (ps ++ cs.map .c) o.dst K
          | none => False) else (match cs with
          | [] => extnP s fn ps o.dst K
          | _ => False)
        | _, _ => False
      | none => False
    | _, _, _ => False
  | _ => False
def sxOne (o : Oper) (s : SS) (K : SS → Prop) : Prop :=
  match pureOp P s [] o with
  | some (ob, fc, r) => obl ob (fct fc (putK s o.dst (.p r) K))
  | none => impOp P Γ o s K
def kn (j : Nat) (want : Bool) : List (Nat × SV) → List (Nat × SV)
  | [] => []
  | (i, v) :: r => (i, bif Nat.beq i j then .p (.c (.bool want)) else match v with
      | .gd j' b x => bif Nat.beq j' j then (bif b == want then .p x else v) else v
      | v => v) :: kn j want r
def know (s : SS) (j : Nat) (want : Bool) : SS := { s with fr := kn j want s.fr }
def gcond (fr : List (Nat × SV)) (j : Nat) (want : Bool) : Prop :=
  match lk fr j with
  | some (.p (.c (.bool b))) => b = want
  | some (.gd _ _ (.c (.bool b))) => b = want
  | _ => True
def oblIf (c : Prop) : List Prop → Prop → Prop
  | [], K => K
  | p :: ps, K => (c → allP (p :: ps)) ∧ K
/-- What is said of the result of an operation that is not done. -/
def skipX (o : Oper) : PV := match zeroCs P o.type with | some [c] => .c c | some l => .agg l | none => .c .junk
/-- An operation that is not done. -/
def skipS (o : Oper) (j : Nat) (want : Bool) (s : SS) (next : SS → Prop) : Prop := match o.dst with
  | some d => bif Nat.blt d s.nt && !(Nat.beq j d) then next (setF s d (.gd j want (skipX P o))) else False
  | none => next s
/-- An operation that is done where b is as is wanted. -/
def gdRun (o : Oper) (j : Nat) (b want : Bool) (s : SS) (next : SS → Prop) : Prop := match want with
  | true => bif b then sxOne P Γ o (know s j true) next else skipS P o j want (know s j false) next
  | false => bif b then skipS P o j want (know s j true) next else sxOne P Γ o (know s j false) next
def sxOps (all : List Oper) : List Oper → SS → (SS → Prop) → Prop
  | [], s, K => K s
  | o :: r, s, K => match o.guard with
    | none => sxOne P Γ o s (fun s' => sxOps all r s' K)
    | some (g, want) => match nth all g with
      | some og => match og.dst with
        | some j => match pureOp P s [(j, want)] o, o.dst with
          | some (ob, _, x), some d => bif Nat.blt d s.nt && !(Nat.beq j d) then oblIf (gcond s.fr j want) ob (sxOps all r (setF s d (.gd j want x)) K) else False
          | _, _ => match lk s.fr j with
            | some (.p (.c (.bool b))) => gdRun P Γ o j b want s (fun s' => sxOps all r s' K)
            | some (.gd j' b' (.c (.bool b))) => match lk s.fr j' with
              | some (.p (.c (.bool c))) => (match b' with
                | true => bif c then gdRun P Γ o j b want (know s j' true) (fun s' => sxOps all r s' K) else skipS P o j want (know s j' false) (fun s' => sxOps all r s' K)
                | false => bif c then skipS P o j want (know s j' true) (fun s' => sxOps all r s' K) else gdRun P Γ o j b want (know s j' false) (fun s' => sxOps all r s' K))
              | _ => False
            | _ => False
        | none => False
      | none => False
/-- A region of which the order isn't told: all its operations only read. -/
def sxSt (all : List Oper) : List Oper → SS → (SS → Prop) → Prop
  | [], s, K => K s
  | o :: r, s, K => match o.guard with
    | none => match pureOp P s [] o with
      | some (ob, fc, x) => obl ob (fct fc (putK s o.dst (.p x) (fun s' => sxSt all r s' K)))
      | none => False
    | some (g, want) => match nth all g with
      | some og => match og.dst with
        | some j => match pureOp P s [(j, want)] o, o.dst with
          | some (ob, _, x), some d => bif Nat.blt d s.nt && !(Nat.beq j d) then oblIf (gcond s.fr j want) ob (sxSt all r (setF s d (.gd j want x)) K) else False
          | _, _ => False
        | none => False
      | none => False
/-- How many operations stand before the first one that may do more than read. -/
def headN : List Oper → Nat
  | [] => 0
  | o :: r => match o.op with
    | .call c => (match c.callee with | .builtin .len => headN r + 1 | .builtin .cap => headN r + 1 | _ => 0)
    | .store .. => 0 | .alloc .. => 0 | .box .. => 0 | .makeSlice .. => 0 | .buildSlice .. => 0
    | _ => headN r + 1
def thenQ (K : SS → Prop) (Q : Exit → SS → Prop) : Exit → SS → Prop
  | .normal, s => K s
  | e, s => Q e s
def blockQ (id : Nat) (Q : Exit → SS → Prop) : Exit → SS → Prop
  | .exit id', s => bif Nat.beq id' id then Q .normal s else Q (.exit id') s
  | e, s => Q e s
def knowO (s : SS) (c : Operand) (b : Bool) : SS := match c with | .tmp j => know s j b | _ => s
end
section
variable {N : Nat} {P : Program} {Γ : Gam} {Λ : Lam}
theorem lk_kn {j : Nat} {want : Bool} : ∀ {fr : List (Nat × SV)} {i : Nat} {v : SV}, lk (kn j want fr) i = some v → ∃ u, lk fr i = some u ∧ v = (bif Nat.beq i j then .p (.c (.bool want)) else match u with
      | .gd j' b x => bif Nat.beq j' j then (bif b == want then .p x else u) else u
      | u => u)
  | [], i, v, h => by simp [kn, lk] at h
  | (k, u) :: r, i, v, h => by
    simp only [kn, lk] at h ⊢
    cases hj : Nat.beq k i
    · rw [hj] at h; exact lk_kn h
    · rw [hj] at h; simp only [cond_true, Option.some.injEq] at h; have := beq_eq hj; subst this; exact ⟨u, rfl, h.symm⟩
theorem once_kn {j : Nat} {want : Bool} : ∀ {fr : List (Nat × SV)}, once fr = true → once (kn j want fr) = true
  | [], _ => rfl
  | (k, u) :: r, h => by
    simp only [once, Bool.and_eq_true, kn] at h ⊢
    refine ⟨?_, once_kn h.2⟩
    cases hl : lk (kn j want r) k with
    | none => rfl
    | some x => obtain ⟨y, hy, _⟩ := lk_kn hl; rw [hy] at h; exact absurd h.1 (by simp)
theorem sat_know {π : Pers} {ρ : Env} {s : SS} {a : Act} {w : World} (S : Sat π ρ s a w) {j : Nat} {want : Bool} (hj : a.tmps[j]? = some (.bool want)) : Sat π ρ (know s j want) a w := by
  refine ⟨S.hs, ?_, S.df, S.nt, once_kn S.on⟩
  intro i v hi
  obtain ⟨u, hu, rfl⟩ := lk_kn hi
  have h0 := S.fs i u hu
  cases hij : Nat.beq i j with
  | true => have := beq_eq hij; subst this; exact ⟨_, hj, rfl⟩
  | false =>
    simp only [cond_false]
    cases u with
    | p x => exact h0
    | tup l => exact h0
    | gd j' b x =>
      simp only
      cases hb : Nat.beq j' j with
      | false => exact h0
      | true =>
        have := beq_eq hb
        subst this
        obtain ⟨v, h1, h2⟩ := h0
        simp only [cond_true]
        cases hw : (b == want) with
        | false => exact ⟨v, h1, h2⟩
        | true =>
          have := eq_of_beq hw
          subst this
          rcases h2 with ⟨_, h2⟩ | ⟨h2, _⟩
          · exact ⟨v, h1, h2⟩
          · exact absurd hj h2
def GOK (P : Program) (Γ : Gam) : Prop := ∀ f own tr, Γ f = some (own, tr) → ∀ args h Q, tr args h Q → FSpec P f args h Q
theorem Oper.wp_mono_next {P : Program} {o : Oper} {a : Act} {w : World} {n n' : Act → World → Prop} {Q : Exit → Act → World → Prop} (hn : ∀ a w, n a w → n' a w) (h : o.wp P a w n Q) : o.wp P a w n' Q := by
  unfold Oper.wp Oper.upon at *
  split at h
  · exact hn _ _ h
  · exact hn _ _ h
  · exact hn _ _ h
  · refine h.mono ?_
    intro e w' he
    cases e with
    | returned v => exact hn _ _ he
    | panicked c => exact he
    | outgrown => exact he
  · refine h.mono ?_
    intro e w' he
    exact hn _ _ he
  · exact h
  · exact h.elim
theorem upon_ok {o : Oper} {a : Act} {w w' : World} {next : Act → World → Prop} {Q : Exit → Act → World → Prop} {v : Value} (h : (execOp a.eval o).run P w = .ok (.value v) w') (hn : next (a.put o.dst v) w') : o.wp P a w next Q := by
  unfold Oper.wp
  rw [h]
  exact hn
theorem some_ok {π : Pers} {ρ : Env} {s : SS} {a : Act} {w : World} (S : Sat π ρ s a w) {x : Operand} : ∀ p, evL s [] x = some p → DenP π ρ p (a.eval x) := fun p hp => evL_ok S (gh_nil _) hp
theorem parts_ok {π : Pers} {ρ : Env} {s : SS} {a : Act} {w : World} (S : Sat π ρ s a w) (parts : Array (Nat × Operand)) : ∀ l, evParts s [] parts.toList = some l → All2 (fun p u => p.1 = u.1 ∧ DenP π ρ p.2 u.2) l (parts.map fun (i, x) => (i, a.eval x)).toList := by
  intro l hl
  rw [Array.toList_map]
  exact evParts_ok S (gh_nil _) _ l hl
theorem sxOne_ok (hΓ : GOK P Γ) {π : Pers} {ρ : Env} {o : Oper} {s : SS} {K : SS → Prop} {a : Act} {w : World} (S : Sat π ρ s a w) (h : sxOne P Γ o s K) (Q : Exit → Act → World → Prop) : o.wp P a w (fun a' w' => Out N P π ρ s w K a' w') Q := by
  unfold sxOne at h
  split at h
  · rename_i ob fc r hp
    obtain ⟨ho, hK⟩ := obl_out h
    obtain ⟨hf, u, hr, hd⟩ := pureOp_ok S (gh_nil _) hp ho
    obtain ⟨s', g1, g2, g3⟩ := putK_ok S hd (fct_out hK hf)
    exact upon_ok hr ⟨π, ρ, s', g1, by rw [g3]; exact Step.refl _ _ _ _ _, g2⟩
  · rename_i hnone
    clear hnone
    unfold impOp at h
    obtain ⟨dst, op, ty, pos, after, guard⟩ := o
    simp only at h
    split at h
    · split at h
      · rename_i t
        split at h
        · rename_i l hl
          obtain ⟨v, h1, h2⟩ := S.fs t _ hl
          obtain ⟨s', g1, g2, g3⟩ := putK_tup S h2 h
          refine upon_ok (v := v) ?_ ⟨π, ρ, s', g1, by rw [g3]; exact Step.refl _ _ _ _ _, g2⟩
          simp [execOp, Act.eval, Array.getD_eq_getD_getElem?, h1]
        · exact h.elim
      · exact h.elim
    · obtain ⟨u, w', hr, hO⟩ := allocP_ok (N := N) (a := a) S h
      exact upon_ok (by unfold execOp; exact vrun hr) hO
    · obtain ⟨u, w', hr, hO⟩ := boxP_ok (N := N) (P := P) S (some_ok S) h
      exact upon_ok (by unfold execOp; exact vrun hr) hO
    · split at h
      · obtain ⟨w', hr, hO⟩ := stoP_ok (N := N) S (some_ok S) (some_ok S) h
        unfold Oper.wp
        rw [show (execOp a.eval _).run P w = .ok .skip w' by unfold execOp; exact urun hr]
        exact hO
      · exact h.elim
    · obtain ⟨u, hr, hO⟩ := lookP_ok (N := N) S (some_ok S) (some_ok S) h
      exact upon_ok (by unfold execOp; exact vrun hr) hO
    · split at h
      · obtain ⟨w', hr, hO⟩ := mapUpV_ok (N := N) S (some_ok S) (some_ok S) (some_ok S) h
        unfold Oper.wp
        rw [show (execOp a.eval _).run P w = .ok .skip w' by unfold execOp; exact urun hr]
        exact hO
      · exact h.elim
    · obtain ⟨u, w', hr, hO⟩ := makeMapP_ok (N := N) (a := a) S h
      exact upon_ok (by unfold execOp; exact vrun hr) hO
    · obtain ⟨u, w', hr, hO⟩ := makeP_ok (N := N) S (some_ok S) (some_ok S) h
      exact upon_ok (by unfold execOp; exact vrun hr) hO
    · obtain ⟨u, w', hr, hO⟩ := buiP_ok (N := N) S (parts_ok S _) h
      exact upon_ok (by unfold execOp; exact vrun hr) hO
    · split at h
      · rename_i t parts p hp
        obtain ⟨u, hr, hd⟩ := buildP_ok w (parts_ok S _) hp
        obtain ⟨s', g1, g2, g3⟩ := putK_ok S hd h
        exact upon_ok (by unfold execOp; exact vrun hr) ⟨π, ρ, s', g1, by rw [g3]; exact Step.refl _ _ _ _ _, g2⟩
      · exact h.elim
    · obtain ⟨u, hr, hO⟩ := nilEq_ok (N := N) S (some_ok S) (some_ok S) _ _ h
      exact upon_ok (by unfold execOp; exact vrun hr) hO
    · rename_i c
      obtain ⟨callee, args, argTypes⟩ := c
      simp only at h
      split at h
      · rename_i d x t1 t2 ha ht
        rw [arr_of_list ha, arr_of_list ht]
        obtain ⟨u, w', hr, hO⟩ := appP_ok (N := N) (ty0 := ty) S (some_ok S) (some_ok S) h
        refine upon_ok ?_ hO
        unfold execOp
        simp [resolve, invoke, builtin, hr]
      · rename_i d x t1 t2 ha ht
        rw [arr_of_list ha, arr_of_list ht]
        obtain ⟨u, w', hr, hO⟩ := copyP_ok (N := N) (ty0 := ty) S (some_ok S) (some_ok S) h
        refine upon_ok ?_ hO
        unfold execOp
        simp [resolve, invoke, builtin, hr]
      · rename_i x
        split at h
        · rename_i f cs hcal
          obtain ⟨cvs, hfv, hcs⟩ := calleeOf_ok (some_ok S) hcal
          split at h
          · rename_i fn ps hfn hps
            cases hb : (fn.body.isSome && !(fn.name == "runtime.NumGoroutine")) with
            | false =>
              rw [hb] at h
              simp only [cond_false] at h
              split at h
              · have hz : cvs = [] := by cases cvs with | nil => rfl | cons _ _ => exact hcs.elim
                subst hz
                obtain ⟨u, w', hr, hO⟩ := extnP_ok (N := N) S hfn (evArgs_ok S _ ps hps) h
                refine upon_ok ?_ hO
                unfold execOp
                have e : (args.toList.map a.eval).toArray = args.map a.eval := by apply Array.ext'; simp
                rw [e] at hr
                simp [resolve, invoke, Deferred.ofValue, hfv, hr]
              · exact h.elim
            | true =>
              rw [hb] at h
              simp only [cond_true] at h
              split at h
              · rename_i own tr hg
                simp only [Bool.and_eq_true, Bool.not_eq_true'] at hb
                have hargs := all2_append (evArgs_ok S _ ps hps) hcs
                have hc := callF_ok (N := N) (P := P) (f := f) (hΓ f own tr hg) (a := a) S hargs h
                have hbn : fn.body.isNone = false := by cases hbb : fn.body with | none => rw [hbb] at hb; simp at hb | some _ => rfl
                unfold Oper.wp
                have he : (execOp a.eval { dst := dst, op := .call { callee := .value x, args := args, argTypes := argTypes }, type := ty, pos := pos, after := after, guard := guard }).run P w = .ok (.enter f (args.toList.map a.eval ++ cvs).toArray) w := by
                  unfold execOp
                  have e1 : ¬ (fn.name = "runtime.NumGoroutine") := by have := hb.2; simpa using this
                  have e2 : ¬ (fn.body = none) := by intro e; rw [e] at hbn; simp at hbn
                  simp [resolve, invoke, Deferred.ofValue, hfv, callFunc, hfn]
                  rw [if_neg e1, if_neg e2]
                  congr 2
                  apply Array.ext'; simp
                rw [he]
                refine hc.mono ?_
                rintro e w' ⟨v, rfl, hO⟩
                exact hO
              · exact h.elim
          · exact h.elim
        · exact h.elim
      · exact h.elim
    · exact h.elim
theorem putNone_ok {π : Pers} {ρ : Env} {s : SS} {a : Act} {w : World} (S : Sat π ρ s a w) (dst : Option Nat) (K : SS → Prop) (u : Value) : (match dst with | some d => K { s with fr := rm s.fr d } | none => K s) → ∃ s', Sat π ρ s' (a.put dst u) w ∧ K s' ∧ s'.hp = s.hp := by
  intro h
  cases dst with
  | none => exact ⟨s, S, h, rfl⟩
  | some d => exact ⟨_, sat_drop S d u, h, rfl⟩
theorem yield_iff {ops : List Oper} {g : Nat} {og : Oper} {j : Nat} {want : Bool} (hg : ops[g]? = some og) (hj : og.dst = some j) (T : Array Value) : (yielded ops.toArray T g == some want) = true ↔ T[j]? = some (.bool want) := by
  unfold yielded
  simp only [List.getElem?_toArray, hg, Option.bind_some, hj]
  constructor
  · intro h
    split at h
    · rename_i b hb
      simp at h
      subst h
      exact hb
    · simp at h
  · intro h
    rw [h]
    simp
theorem oblIf_out {c K : Prop} : ∀ {ps : List Prop}, oblIf c ps K → (c → allP ps) ∧ K
  | [], h => ⟨fun _ => trivial, h⟩
  | _ :: _, h => h
theorem gcond_ok {π : Pers} {ρ : Env} {s : SS} {a : Act} {w : World} (S : Sat π ρ s a w) {j : Nat} {want : Bool} (hT : a.tmps[j]? = some (.bool want)) : gcond s.fr j want := by
  unfold gcond
  split
  · rename_i b hb
    obtain ⟨v, h1, h2⟩ := S.fs j _ hb
    rw [hT] at h1
    cases h1
    simp only [DenP, DenC] at h2
    cases h2; rfl
  · rename_i j' b' b hb
    obtain ⟨v, h1, h2⟩ := S.fs j _ hb
    rw [hT] at h1
    cases h1
    rcases h2 with ⟨_, h2⟩ | ⟨_, h2⟩
    · simp only [DenP, DenC] at h2; cases h2; rfl
    · simp [undef] at h2
  · trivial
theorem sxOps_ok (hΓ : GOK P Γ) {all : List Oper} {Q : Exit → Act → World → Prop} {K : SS → Prop} {π0 : Pers} {ρ0 : Env} {h0 : List HB} {w0 : World}
    (hQ : ∀ π ρ s a w, Sat π ρ s a w → Step N ρ0 h0 w0 π0 ρ s.hp w π → K s → Q .normal a w) :
    ∀ (l : List Oper) (s : SS) (π : Pers) (ρ : Env) (a : Act) (w : World), Sat π ρ s a w → Step N ρ0 h0 w0 π0 ρ s.hp w π → sxOps P Γ all l s K → wpList P all.toArray Q l a w
  | [], s, π, ρ, a, w, S, St, h => wpList_nil (hQ π ρ s a w S St h)
  | o :: r, s, π, ρ, a, w, S, St, h => by
    have ih := sxOps_ok (all := all) hΓ hQ r
    have one : ∀ (s1 : SS), Sat π ρ s1 a w → s1.hp = s.hp → sxOne P Γ o s1 (fun s' => sxOps P Γ all r s' K) → o.wp P a w (wpList P all.toArray Q r) Q := by
      intro s1 S1 hs1 h1
      have := sxOne_ok (N := N) hΓ S1 h1 Q
      refine Oper.wp_mono_next ?_ this
      rintro a' w' ⟨π', ρ', s', g1, g2, g3⟩
      rw [hs1] at g2
      exact ih s' π' ρ' a' w' g1 (St.trans g2) g3
    simp only [sxOps] at h
    split at h
    · rename_i hgd
      unfold wpList
      rw [if_pos (by simp [Region.wanted, hgd])]
      exact .inl (one s S rfl h)
    · rename_i g want hgd
      split at h
      · rename_i og hog
        rw [nth_eq] at hog
        split at h
        · rename_i j hj
          have hw : Region.wanted o (yielded all.toArray a.tmps) = true ↔ a.tmps[j]? = some (.bool want) := by
            simp only [Region.wanted, hgd]
            exact yield_iff hog hj a.tmps
          split at h
          · rename_i ob fc x d hp hd
            cases hq : (Nat.blt d s.nt && !(Nat.beq j d)) with
            | false => rw [hq] at h; exact h.elim
            | true =>
              rw [hq] at h
              simp only [cond_true] at h
              simp only [Bool.and_eq_true, Bool.not_eq_true'] at hq
              have hdn : d < s.nt := by simpa [Nat.blt_eq] using hq.1
              have hjd := beq_ne hq.2
              obtain ⟨hob, hK⟩ := oblIf_out h
              have hlen : d < a.tmps.size := by rw [S.nt]; exact hdn
              unfold wpList
              by_cases hyes : Region.wanted o (yielded all.toArray a.tmps) = true
              · rw [if_pos hyes]
                have hT := hw.1 hyes
                have hc : gcond s.fr j want := by
                  unfold gcond
                  split
                  · rename_i b hb
                    obtain ⟨v, h1, h2⟩ := S.fs j _ hb
                    rw [hT] at h1
                    cases h1
                    simp only [DenP, DenC] at h2
                    cases h2; rfl
                  · rename_i j' b' b hb
                    obtain ⟨v, h1, h2⟩ := S.fs j _ hb
                    rw [hT] at h1
                    cases h1
                    rcases h2 with ⟨_, h2⟩ | ⟨_, h2⟩
                    · simp only [DenP, DenC] at h2; cases h2; rfl
                    · simp [undef] at h2
                  · trivial
                obtain ⟨_, u, hr, hden⟩ := pureOp_ok S (gh_cons (gh_nil _) hT) hp (hob hc)
                left
                refine upon_ok hr ?_
                rw [hd]
                refine ih _ π ρ _ w (sat_set S hdn u (.gd j want x) ⟨u, ?_, .inl ⟨?_, hden⟩⟩) St hK
                · rw [Array.getElem?_setIfInBounds_self_of_lt hlen]
                · rw [Array.getElem?_setIfInBounds_ne (fun e => hjd e.symm)]; exact hT
              · rw [if_neg hyes, hd]
                refine ih _ π ρ _ w (sat_set S hdn undef (.gd j want x) ⟨undef, ?_, .inr ⟨?_, rfl⟩⟩) St hK
                · rw [Array.getElem?_setIfInBounds_self_of_lt hlen]
                · rw [Array.getElem?_setIfInBounds_ne (fun e => hjd e.symm)]; exact fun hT => hyes (hw.2 hT)
          · have skp : ∀ s1, Sat π ρ s1 a w → s1.hp = s.hp → ¬ Region.wanted o (yielded all.toArray a.tmps) = true → skipS P o j want s1 (fun s' => sxOps P Γ all r s' K) → wpList P all.toArray Q (o :: r) a w := by
              intro s1 S1 hs1 hno hh
              unfold skipS at hh
              unfold wpList
              rw [if_neg hno]
              cases hd : o.dst with
              | none => rw [hd] at hh; exact ih _ π ρ a w S1 (by rw [hs1]; exact St) hh
              | some d =>
                rw [hd] at hh
                simp only at hh
                cases hq : (Nat.blt d s1.nt && !(Nat.beq j d)) with
                | false => rw [hq] at hh; exact hh.elim
                | true =>
                  rw [hq] at hh
                  simp only [cond_true] at hh
                  simp only [Bool.and_eq_true, Bool.not_eq_true'] at hq
                  have hdn : d < s1.nt := by simpa [Nat.blt_eq] using hq.1
                  have hjd := beq_ne hq.2
                  have hlen : d < a.tmps.size := by rw [S1.nt]; exact hdn
                  refine ih _ π ρ _ w (sat_set S1 hdn undef (.gd j want (skipX P o)) ⟨undef, ?_, .inr ⟨?_, rfl⟩⟩) (by show Step N ρ0 h0 w0 π0 ρ s1.hp w π; rw [hs1]; exact St) hh
                  · rw [Array.getElem?_setIfInBounds_self_of_lt hlen]
                  · rw [Array.getElem?_setIfInBounds_ne (fun e => hjd e.symm)]; exact fun hT => hno (hw.2 hT)
            have run : ∀ s1 (b : Bool), Sat π ρ s1 a w → s1.hp = s.hp → a.tmps[j]? = some (.bool b) → gdRun P Γ o j b want s1 (fun s' => sxOps P Γ all r s' K) → wpList P all.toArray Q (o :: r) a w := by
              intro s1 b S1 hs1 h1 hh
              have no : ∀ c : Bool, b = c → want ≠ c → ¬ Region.wanted o (yielded all.toArray a.tmps) = true := by
                intro c hbc hne
                subst hbc
                rw [hw, h1]; intro e; simp only [Option.some.injEq, Value.bool.injEq] at e; exact hne e.symm
              have exe : ∀ c : Bool, b = c → want = c → sxOne P Γ o (know s1 j c) (fun s' => sxOps P Γ all r s' K) → wpList P all.toArray Q (o :: r) a w := by
                intro c hbc he hh
                subst hbc
                have S2 := sat_know S1 h1
                unfold wpList
                rw [if_pos (hw.2 (by rw [he]; exact h1))]
                exact .inl (one _ S2 hs1 hh)
              unfold gdRun at hh
              split at hh
              · cases hb : b with
                | true => rw [hb] at hh; exact exe true hb rfl hh
                | false => rw [hb] at hh; exact skp _ (sat_know S1 (by rw [h1, hb])) hs1 (no false hb (by simp)) hh
              · cases hb : b with
                | true => rw [hb] at hh; exact skp _ (sat_know S1 (by rw [h1, hb])) hs1 (no true hb (by simp)) hh
                | false => rw [hb] at hh; exact exe false hb rfl hh
            split at h
            · rename_i b hb
              obtain ⟨v, h1, h2⟩ := S.fs j _ hb
              simp only [DenP, DenC] at h2
              subst h2
              exact run s b S rfl h1 h
            · rename_i j' b' b hb
              split at h
              · rename_i c hc
                obtain ⟨v, h1, h2⟩ := S.fs j _ hb
                obtain ⟨v', h1', h2'⟩ := S.fs j' _ hc
                simp only [DenP, DenC] at h2'
                subst h2'
                have yes : c = b' → a.tmps[j]? = some (.bool b) := by
                  intro e
                  subst e
                  rcases h2 with ⟨_, h2⟩ | ⟨h2, _⟩
                  · simp only [DenP, DenC] at h2; rw [h1, h2]
                  · exact absurd h1' h2
                have no : c ≠ b' → ¬ Region.wanted o (yielded all.toArray a.tmps) = true := by
                  intro e
                  rcases h2 with ⟨h2, _⟩ | ⟨_, h2⟩
                  · rw [h1'] at h2; simp only [Option.some.injEq, Value.bool.injEq] at h2; exact absurd h2 e
                  · rw [hw, h1, h2]; simp [undef]
                split at h
                · cases hcc : c with
                  | true => rw [hcc] at h; exact run _ b (sat_know S (by rw [h1', hcc])) rfl (yes hcc) h
                  | false => rw [hcc] at h; exact skp _ (sat_know S (by rw [h1', hcc])) rfl (no (by rw [hcc]; simp)) h
                · cases hcc : c with
                  | true => rw [hcc] at h; exact skp _ (sat_know S (by rw [h1', hcc])) rfl (no (by rw [hcc]; simp)) h
                  | false => rw [hcc] at h; exact run _ b (sat_know S (by rw [h1', hcc])) rfl (yes hcc) h
              · exact h.elim
            · exact h.elim
        · exact h.elim
      · exact h.elim
theorem sxSt_ok {all : List Oper} {K : SS → Prop} {R : Act → Prop} {π : Pers} {ρ : Env} {h0 : List HB} {w : World}
    (hR : ∀ s a, Sat π ρ s a w → s.hp = h0 → K s → R a) : ∀ (l : List Oper) (s : SS) (a : Act), Sat π ρ s a w → s.hp = h0 → sxSt P all l s K → wpStill P all.toArray w R l a
  | [], s, a, S, hh, h => wpStill_nil (hR s a S hh h)
  | o :: r, s, a, S, hh, h => by
    have ih := sxSt_ok (all := all) hR r
    simp only [sxSt] at h
    unfold wpStill
    split at h
    · rename_i hgd
      rw [if_pos (by simp [Region.wanted, hgd])]
      split at h
      · rename_i ob fc x hp
        obtain ⟨ho, hK⟩ := obl_out h
        obtain ⟨hf, u, hr, hd⟩ := pureOp_ok S (gh_nil _) hp ho
        obtain ⟨s', g1, g2, g3⟩ := putK_ok S hd (fct_out hK hf)
        unfold Oper.still
        rw [hr, Oper.stillUpon_value]
        exact ih s' _ g1 (g3.trans hh) g2
      · exact h.elim
    · rename_i g want hgd
      split at h
      · rename_i og hog
        rw [nth_eq] at hog
        split at h
        · rename_i j hj
          have hw : Region.wanted o (yielded all.toArray a.tmps) = true ↔ a.tmps[j]? = some (.bool want) := by
            simp only [Region.wanted, hgd]
            exact yield_iff hog hj a.tmps
          split at h
          · rename_i ob fc x d hp hd
            cases hq : (Nat.blt d s.nt && !(Nat.beq j d)) with
            | false => rw [hq] at h; exact h.elim
            | true =>
              rw [hq] at h
              simp only [cond_true] at h
              simp only [Bool.and_eq_true, Bool.not_eq_true'] at hq
              have hdn : d < s.nt := by simpa [Nat.blt_eq] using hq.1
              have hjd := beq_ne hq.2
              obtain ⟨hob, hK⟩ := oblIf_out h
              have hlen : d < a.tmps.size := by rw [S.nt]; exact hdn
              by_cases hyes : Region.wanted o (yielded all.toArray a.tmps) = true
              · rw [if_pos hyes]
                have hT := hw.1 hyes
                obtain ⟨_, u, hr, hden⟩ := pureOp_ok S (gh_cons (gh_nil _) hT) hp (hob (gcond_ok S hT))
                unfold Oper.still
                rw [hr, Oper.stillUpon_value, hd]
                refine ih _ _ (sat_set S hdn u (.gd j want x) ⟨u, ?_, .inl ⟨?_, hden⟩⟩) hh hK
                · rw [Array.getElem?_setIfInBounds_self_of_lt hlen]
                · rw [Array.getElem?_setIfInBounds_ne (fun e => hjd e.symm)]; exact hT
              · rw [if_neg hyes, hd]
                refine ih _ _ (sat_set S hdn undef (.gd j want x) ⟨undef, ?_, .inr ⟨?_, rfl⟩⟩) hh hK
                · rw [Array.getElem?_setIfInBounds_self_of_lt hlen]
                · rw [Array.getElem?_setIfInBounds_ne (fun e => hjd e.symm)]; exact fun hT => hyes (hw.2 hT)
          · exact h.elim
        · exact h.elim
      · exact h.elim
end
end Go.Proofs.Ytloiimhmmcheoaa.Sx
namespace Go.Proofs.Ytloiimhmmcheoaa.Sx
open Go
set_option linter.unusedVariables false
set_option linter.unusedSimpArgs false

/-! ### one operation, while some blocks are out of its reach -/
def rangeN : Nat → List Nat
  | 0 => []
  | n + 1 => rangeN n ++ [n]
def cmpl (B : List Nat) : List Nat → List Nat
  | [] => []
  | x :: r => bif memN B x then cmpl B r else x :: cmpl B r
theorem cmpl_mem {B : List Nat} {x : Nat} : ∀ {l : List Nat}, x ∈ cmpl B l → memN B x = false
  | [], h => by simp [cmpl] at h
  | y :: r, h => by
    simp only [cmpl] at h
    cases hb : memN B y with
    | true => rw [hb] at h; exact cmpl_mem h
    | false =>
      rw [hb] at h
      rcases List.mem_cons.1 h with rfl | h
      · exact hb
      · exact cmpl_mem h
def hasJl : List CV → Bool | [] => false | .junk :: _ => true | _ :: r => hasJl r
def hasJp : PV → Bool | .c .junk => true | .c _ => false | .agg l => hasJl l | .clo _ l => hasJl l
def hasJps : List PV → Bool | [] => false | p :: r => hasJp p || hasJps r
def hasJ : SV → Bool | .p x => hasJp x | .gd _ _ x => hasJp x | .tup l => hasJps l
def addF : List (Nat × SV) → List (Nat × SV) → List (Nat × SV)
  | base, [] => base
  | base, (i, v) :: r => addF (match lk base i with
    | none => (i, v) :: base
    | some u => bif hasJ u then up base i v else base) r
theorem addF_ok {R : Nat → SV → Prop} : ∀ {old base : List (Nat × SV)}, once base = true → once old = true → (∀ i v, lk base i = some v → R i v) → (∀ i v, lk old i = some v → R i v) → once (addF base old) = true ∧ ∀ i v, lk (addF base old) i = some v → R i v
  | [], base, h1, _, h3, _ => ⟨h1, h3⟩
  | (i, v) :: r, base, h1, h2, h3, h4 => by
    simp only [addF]
    simp only [once, Bool.and_eq_true] at h2
    have hv : R i v := h4 i v (by simp [lk])
    have hr : ∀ k u, lk r k = some u → R k u := fun k u hk => by
      refine h4 k u ?_
      simp only [lk]
      cases hb : Nat.beq i k with
      | false => exact hk
      | true => have := beq_eq hb; subst this; rw [hk] at h2; exact absurd h2.1 (by simp)
    split
    · rename_i hn
      refine addF_ok ?_ h2.2 ?_ hr
      · simp only [once, Bool.and_eq_true]; exact ⟨by rw [hn], h1⟩
      · intro k u hk
        simp only [lk] at hk
        cases hb : Nat.beq i k with
        | false => rw [hb] at hk; exact h3 k u hk
        | true => rw [hb] at hk; have := beq_eq hb; subst this; simp only [cond_true, Option.some.injEq] at hk; subst hk; exact hv
    · rename_i u0 hu0
      cases hj : hasJ u0 with
      | false => exact addF_ok h1 h2.2 h3 hr
      | true =>
        refine addF_ok (once_up h1) h2.2 ?_ hr
        intro k u hk
        simp only [cond_true, up, lk] at hk
        cases hb : Nat.beq i k with
        | false => rw [hb] at hk; exact h3 k u (lk_rm_once h1 hk)
        | true => rw [hb] at hk; have := beq_eq hb; subst this; simp only [cond_true, Option.some.injEq] at hk; subst hk; exact hv
def mergeS (s s' : SS) (m : List Nat) (dst : Option Nat) : SS :=
  { nt := s.nt, fr := addF (renF (backN s.hp.length m) s'.fr) (renF (aftN s.hp m) (match dst with | some d => rm s.fr d | none => s.fr)), hp := mrgH s.hp s'.hp m }
theorem put_mono {P : Program} {o : Oper} {a : Act} {w : World} {n : Act → World → Prop} {Q : Exit → Act → World → Prop} (h : o.wp P a w n Q) : o.wp P a w (fun a' w' => n a' w' ∧ ∃ u, a'.tmps = (a.put o.dst u).tmps) Q := by
  have pd : ∀ (d : Deferred) (u : Value), (({ a with defers := d :: a.defers } : Act).put o.dst u).tmps = (a.put o.dst u).tmps := by intro d u; cases hd : o.dst <;> simp [Act.put]
  unfold Oper.wp Oper.upon at *
  split at h
  · exact ⟨h, _, rfl⟩
  · exact ⟨h, _, rfl⟩
  · exact ⟨h, _, pd _ _⟩
  · refine h.mono ?_
    intro e w' he
    cases e with
    | returned v => exact ⟨he, _, rfl⟩
    | panicked c => exact he
    | outgrown => exact he
  · refine h.mono ?_
    intro e w' he
    exact ⟨he, _, rfl⟩
  · exact h
  · exact h.elim
def viewsL : List CV → List Nat
  | [] => []
  | .view _ b _ _ :: r => b :: viewsL r
  | _ :: r => viewsL r
def viewsPs : List (Nat × PV) → List Nat
  | [] => []
  | (_, p) :: r => viewsL (cellsOfP p) ++ viewsPs r
def dedupN : List Nat → List Nat
  | [] => []
  | a :: r => bif memN r a then dedupN r else a :: dedupN r
/-- The blocks that the operation may come near to. -/
def nearTo (B : List Nat) (o : Oper) (s : SS) : List Nat :=
  match o.op with
  | .buildSlice _ _ parts => match evParts s [] parts.toList with
    | some ps => cmpl B (dedupN (viewsPs ps))
    | none => []
  | .makeSlice .. => [] | .alloc .. => []
  | .call c => match c.callee, evArgs s c.args.toList with
    | .builtin .append, some ps => cmpl B (dedupN (viewsL (flatten ps)))
    | .value (.func _), some ps => cmpl B (reach s.hp 1000 (flatten ps) [])
    | _, _ => cmpl B (rangeN s.hp.length)
  | _ => cmpl B (rangeN s.hp.length)
theorem nearTo_ok {B : List Nat} {o : Oper} {s : SS} {x : Nat} (h : x ∈ nearTo B o s) : memN B x = false := by
  unfold nearTo at h
  split at h
  · split at h
    · exact cmpl_mem h
    · simp at h
  · simp at h
  · simp at h
  · split at h
    · exact cmpl_mem h
    · exact cmpl_mem h
    · exact cmpl_mem h
  · exact cmpl_mem h
section
variable (P : Program) (Γ : Gam)
/-- An operation that does not come near the blocks B. -/
def frOne (B : List Nat) (o : Oper) (s : SS) (K : SS → Prop) : Prop :=
  let m := nearTo B o s
  bif nodupN m && allLt s.hp.length m then sxOne P Γ o (restrict s m) (fun s' => bif Nat.ble m.length s'.hp.length then K (mergeS s s' m o.dst) else False) else False
end
section
variable {N : Nat} {P : Program} {Γ : Gam}
theorem frOne_ok (hΓ : GOK P Γ) {B : List Nat} {π : Pers} {ρ : Env} {o : Oper} {s : SS} {K : SS → Prop} {a : Act} {w : World} (S : Sat π ρ s a w) (h : frOne P Γ B o s K) (Q : Exit → Act → World → Prop) :
    o.wp P a w (fun a' w' => ∃ π' ρ' s', Sat π' ρ' s' a' w' ∧ Step N ρ s.hp w π ρ' s'.hp w' π' ∧ (∀ k, memN B k = true → k < s.hp.length → ρ' k = ρ k ∧ ∀ g, own (ρ k) g → w'.heap[g]? = w.heap[g]?) ∧ (∀ g, π g ≠ none → w'.heap[g]? = w.heap[g]?) ∧ s.hp.length ≤ s'.hp.length ∧ K s') Q := by
  unfold frOne at h
  dsimp only at h
  generalize hm : nearTo B o s = m at h
  have hB : ∀ x, x ∈ m → memN B x = false := fun x hx => nearTo_ok (by rw [hm]; exact hx)
  cases hq : (nodupN m && allLt s.hp.length m) with
  | false => rw [hq] at h; exact h.elim
  | true =>
    rw [hq] at h
    simp only [cond_true] at h
    simp only [Bool.and_eq_true] at hq
    obtain ⟨hn, hl⟩ := hq
    have S1 := sat_restrict S hn hl
    have hlen := subH_len (h := s.hp) (m := m) m
    refine Oper.wp_mono_next ?_ (put_mono (sxOne_ok (N := m.length) hΓ S1 h Q))
    rintro a' w' ⟨⟨π', ρ', s', S', St, hK⟩, u, hu⟩
    cases hml : Nat.ble m.length s'.hp.length with
    | false => rw [hml] at hK; exact hK.elim
    | true =>
      rw [hml] at hK
      simp only [cond_true] at hK
      have hml := Nat.le_of_ble_eq_true hml
      have St : Step m.length (envOf ρ m) (subH s.hp m m) w π ρ' s'.hp w' π' := St
      have hpf : ∀ g vs, π' g = some vs → π g = some vs ∨ (∃ j, j < m.length ∧ own (envOf ρ m j) g) ∨ w.heap.size ≤ g := by
        intro g vs hg
        rcases St.pfresh g vs hg with h0 | ⟨j, hj, hr⟩ | hge
        · exact .inl h0
        · exact .inr (.inl ⟨j, by rw [hlen] at hj; exact hj, hr⟩)
        · exact .inr (.inr hge)
      have HM := hsat_mrg S.hs hn hl St S'.hs hml St.pmono hpf
      have SM := step_mrg (N := N) S.hs hn hl St hml S'.hs St.pmono hpf
      have hR2 := ren_aft S.hs hn St
      have hR1 := ren_back (ρ := ρ) hn hl S'.hs
      have hloc : ∀ j g, own (envOf ρ m j) g → ∃ b, b ∈ m ∧ b < s.hp.length ∧ own (ρ b) g := by
        intro j g hj
        obtain ⟨b, hb, h1⟩ := own_env hj
        exact ⟨b, List.mem_of_getElem? hb, allLt_ok hl j b hb, h1⟩
      have hold : ∀ i v, lk (renF (aftN s.hp m) (match o.dst with | some d => rm s.fr d | none => s.fr)) i = some v → SlotIs π' (mrgE s.hp.length m s'.hp.length ρ ρ') a'.tmps i v := by
        intro i v hi
        obtain ⟨x, hx, rfl⟩ := lk_ren hi
        refine slot_ren hR2 _ (slot_up St.pmono (fun _ _ h => h) x ?_)
        rw [hu]
        cases hd : o.dst with
        | none => rw [hd] at hx; exact S.fs i x hx
        | some d =>
          rw [hd] at hx
          obtain ⟨h1, h2, _⟩ := lk_rm s.fr d i x hx
          exact slot_put u h1 x h2 (S.fs i x (lk_rm_once S.on hx))
      have hnew : ∀ i v, lk (renF (backN s.hp.length m) s'.fr) i = some v → SlotIs π' (mrgE s.hp.length m s'.hp.length ρ ρ') a'.tmps i v := by
        intro i v hi
        obtain ⟨x, hx, rfl⟩ := lk_ren hi
        exact slot_ren hR1 _ (S'.fs i x hx)
      have hoo : once (renF (aftN s.hp m) (match o.dst with | some d => rm s.fr d | none => s.fr)) = true := by
        cases o.dst with
        | none => exact once_ren S.on
        | some d => exact once_ren (once_rm S.on)
      obtain ⟨ho, hf⟩ := addF_ok (once_ren S'.on) hoo hnew hold
      refine ⟨π', mrgE s.hp.length m s'.hp.length ρ ρ', mergeS s s' m o.dst, ⟨HM, hf, S'.df, ?_, ho⟩, SM, ?_, ?_, ?_, hK⟩
      · rw [hu]
        show _ = s.nt
        rw [← S.nt]
        cases o.dst <;> simp [Act.put]
      · intro k hk hkl
        have hpk : posOf m k = none := by
          cases hp : posOf m k with
          | none => rfl
          | some j => have := hB k (List.mem_of_getElem? (posOf_get hp)); rw [hk] at this; cases this
        refine ⟨mrg_out hkl hpk, fun g hr => ?_⟩
        refine St.block g (S.hs.lt k hkl g hr) (fun j _ hj => ?_)
        obtain ⟨b, hb, hbl, hrb⟩ := hloc j g hj
        have := S.hs.inj k b g hkl hbl hr hrb
        subst this
        have := hB k hb
        rw [hk] at this; cases this
      · intro g hg
        cases hπ : π g with
        | none => exact absurd hπ hg
        | some vs =>
          obtain ⟨e, f, he⟩ := S.hs.pers g vs hπ
          refine St.block g (Array.getElem?_eq_some_iff.1 he).1 (fun j _ hj => ?_)
          obtain ⟨b, hb, hbl, hrb⟩ := hloc j g hj
          have := S.hs.apart b g hbl hrb
          rw [hπ] at this; cases this
      · show s.hp.length ≤ (mrgH s.hp s'.hp m).length
        unfold mrgH
        rw [List.length_append, mrgO_len]
        omega
end

/-! ### whatever order is picked: the first n operations -/
section
variable {P : Program} {ops : Array Oper} {Q : Exit → Act → World → Prop} {md : Region.Mode} {S : World → Prop} {n : Nat} {L : Array Bool → Act → World → Prop}
def wpHL (P : Program) (md : Region.Mode) (ops : Array Oper) (Q : Exit → Act → World → Prop) (S : World → Prop) (n : Nat) (L : Array Bool → Act → World → Prop) : Nat → Array Bool → Act → World → Prop
  | 0, listed, a, w => L listed a w
  | f + 1, listed, a, w => Region.ready md ops listed ≠ [] ∧ ∀ i ∈ Region.ready md ops listed, i < n ∧ wpOp P ops Q i (fun a' w' => S w' ∧ wpHL P md ops Q S n L f (listed.setIfInBounds i true) a' w') a w
theorem wpHL_any {g : Nat} (hL : ∀ listed a w, L listed a w → wpAny P md ops Q g listed a w) : ∀ (f : Nat) (listed : Array Bool) (a : Act) (w : World), wpHL P md ops Q S n L f listed a w → wpAny P md ops Q (f + g) listed a w
  | 0, listed, a, w, h => by rw [Nat.zero_add]; exact hL _ _ _ h
  | f + 1, listed, a, w, h => by
    rw [show f + 1 + g = (f + g) + 1 by omega]
    exact ⟨fun h0 => absurd h0 h.1, fun i hi => wpOp_mono (fun a' w' h' => wpHL_any hL f _ a' w' h'.2) (h.2 i hi).2⟩
theorem wpHL_first {i : Nat} {oi : Oper} {v : Value} (hi : ops[i]? = some oi) (hsel : ∀ (j : Nat) (o : Oper) cs b, ops[j]? = some o → o.op ≠ .select cs b) (hin : i < n)
    (htl : ∀ (listed : Array Bool), HeadInv md ops n listed → listed.getD i true = false → ∀ t, n ≤ t → t ∉ Region.ready md ops listed)
    (hQ : ∀ c a w, Q (.panic c) (a.put oi.dst v) w → Q (.panic c) a w)
    (hdone : ∀ listed a w, L listed a w → ∀ j ∈ Region.ready md ops listed, n ≤ j) :
    ∀ (f : Nat) (listed : Array Bool) (a : Act) (w : World), HeadInv md ops n listed →
      (∀ j oj, ops[j]? = some oj → j ≠ i → listed.getD j true = false → (∀ e ∈ oj.after, Region.binds md e = true → e.on ≠ i) → oi.apart ops oj = true) →
      i ∈ Region.ready md ops listed → YieldsIf P ops S oi v a → S w →
      wpHL P md ops Q S n L f (listed.setIfInBounds i true) (a.put oi.dst v) w → wpHL P md ops Q S n L (f + 1) listed a w := by
  intro f
  induction f with
  | zero =>
    intro listed a w inv hfree hr hy hS H
    refine ⟨fun h => (by rw [h] at hr; cases hr), fun j hj => ?_⟩
    have hjn : j < n := by
      rcases Nat.lt_or_ge j n with h | h
      · exact h
      · exact absurd hj (htl listed inv (mem_ready.1 hr).1 j h)
    refine ⟨hjn, ?_⟩
    by_cases hji : j = i
    · subst hji; exact hy.wpOp hi hS ⟨hS, H⟩
    · have := hdone _ _ _ H j (ready_mono hj hji)
      omega
  | succ f ih =>
    intro listed a w inv hfree hr hy hS H
    have hun := (mem_ready.1 hr).1
    refine ⟨fun h => (by rw [h] at hr; cases hr), fun j hj => ?_⟩
    have hjn : j < n := by
      rcases Nat.lt_or_ge j n with h | h
      · exact h
      · exact absurd hj (htl listed inv hun j h)
    refine ⟨hjn, ?_⟩
    by_cases hji : j = i
    · subst hji; exact hy.wpOp hi hS ⟨hS, H⟩
    · have h1 := (H.2 j (ready_mono hj hji)).2
      obtain ⟨hjun, oj, hoj, hall⟩ := mem_ready.1 hj
      have hnot : ∀ e ∈ oj.after, Region.binds md e = true → e.on ≠ i := fun e he hb heq => by
        have h2 := hall e he hb
        rw [heq, getD_both hun] at h2
        cases h2
      have h2 := wpOp_putIf hoj (hfree j oj hoj hji hjun hnot) (fun cs b => hsel i oi cs b hi) (fun cs b => hsel j oj cs b hoj) hQ hy h1
      have hfree' : ∀ k ok, ops[k]? = some ok → k ≠ i → (listed.setIfInBounds j true).getD k true = false →
          (∀ e ∈ ok.after, Region.binds md e = true → e.on ≠ i) → oi.apart ops ok = true := fun k ok hk hki hun hno => by
        refine hfree k ok hk hki ?_ hno
        by_cases hjk : j = k
        · subst hjk; exact hjun
        · rw [getD_set_ne true hjk] at hun; exact hun
      refine wpOp_mono (fun a' w' h3 => ⟨h3.2.1, ih (listed.setIfInBounds j true) a' w' (inv.set hj hjn) hfree' (ready_mono hr (Ne.symm hji)) h3.1 h3.2.1 ?_⟩) h2
      rw [Array.setIfInBounds_comm _ _ hji]
      exact h3.2.2
end

/-! ### the evaluation -/
def goneH (B : List Nat) : Nat → List HB → List HB
  | _, [] => []
  | k, it :: r => (bif memN B k then it else .gone) :: goneH B (k + 1) r
def gB (B : List Nat) (s : SS) : SS := { s with hp := goneH B 0 s.hp }
theorem goneH_get {B : List Nat} : ∀ {h : List HB} {k i : Nat} {it : HB}, (goneH B k h)[i]? = some it → (it = .gone) ∨ (memN B (k + i) = true ∧ h[i]? = some it)
  | [], k, i, it, h => by simp [goneH] at h
  | x :: r, k, 0, it, h => by
    simp only [goneH, List.getElem?_cons_zero, Option.some.injEq] at h
    cases hb : memN B k with
    | false => rw [hb] at h; exact .inl h.symm
    | true => rw [hb] at h; subst h; exact .inr ⟨by first | rfl | exact hb, rfl⟩
  | x :: r, k, i + 1, it, h => by
    simp only [goneH, List.getElem?_cons_succ] at h
    rcases goneH_get h with h | ⟨h1, h2⟩
    · exact .inl h
    · exact .inr ⟨by rw [show k + (i + 1) = k + 1 + i by omega]; exact h1, by rw [List.getElem?_cons_succ]; exact h2⟩
theorem goneH_len {B : List Nat} : ∀ {h : List HB} {k : Nat}, (goneH B k h).length = h.length
  | [], _ => rfl
  | _ :: r, k => by simp only [goneH, List.length_cons, goneH_len (h := r)]
theorem sat_gone {π : Pers} {ρ : Env} {s : SS} {a : Act} {w : World} (B : List Nat) (S : Sat π ρ s a w) : Sat π ρ (gB B s) a w := by
  have hl : (gB B s).hp.length = s.hp.length := goneH_len
  refine ⟨⟨fun k it hk => ?_, fun k hk => S.hs.lt k (by rw [← hl]; exact hk), fun k k' g hk hk' => S.hs.inj k k' g (by rw [← hl]; exact hk) (by rw [← hl]; exact hk'), fun k g hk => S.hs.apart k g (by rw [← hl]; exact hk), S.hs.pers, fun k hk => S.hs.out k (by rw [← hl]; exact hk)⟩, S.fs, S.df, S.nt, S.on⟩
  rcases goneH_get hk with rfl | ⟨_, h2⟩
  · trivial
  · exact S.hs.items k it h2
section
variable (P : Program) (Γ : Gam)
def takeOk (all : List Oper) (B : List Nat) (flag : Bool) (listed : Array Bool) (s : SS) (i : Nat) : Bool :=
  match nth all i with
  | some o => (match o.guard with
    | none => (pureX P (gB B s) [] o).isSome && !(flag && eL (gB B s) [] o)
    | some (g, want) => match nth all g with
      | some og => match og.dst, o.dst with
        | some j, some d => (pureX P (gB B s) [(j, want)] o).isSome && !(flag && eL (gB B s) [(j, want)] o) && Nat.blt d s.nt && !(Nat.beq j d)
        | _, _ => false
      | none => false) && Region.free .any all.toArray listed i
  | none => false
def pickI (f : Nat → Bool) : List Nat → Option Nat
  | [] => none
  | i :: r => bif f i then some i else pickI f r
/-- An operation that is done where b is as is wanted. -/
def gdFr (B : List Nat) (o : Oper) (j : Nat) (b want : Bool) (s : SS) (K : SS → Prop) : Prop := match want with
  | true => bif b then frOne P Γ B o (know s j true) K else skipS P o j want (know s j false) K
  | false => bif b then skipS P o j want (know s j true) K else frOne P Γ B o (know s j false) K
def stOne (all : List Oper) (B : List Nat) (o : Oper) (s : SS) (K : SS → Prop) : Prop :=
  match o.guard with
  | none => frOne P Γ B o s K
  | some (g, want) => match nth all g with
    | some og => match og.dst with
      | some j => match lk s.fr j with
        | some (.p (.c (.bool b))) => gdFr P Γ B o j b want s K
        | some (.gd j' b' (.c (.bool b))) => match lk s.fr j' with
          | some (.p (.c (.bool c))) => (match b' with
            | true => bif c then gdFr P Γ B o j b want (know s j' true) K else skipS P o j want (know s j' false) K
            | false => bif c then skipS P o j want (know s j' true) K else gdFr P Γ B o j b want (know s j' false) K)
          | _ => False
        | _ => False
      | none => False
    | none => False
/-- The first n operations, in whatever order: what reads alone (of the blocks B, or of what lasts) is taken first; the others must come one by one. -/
def sxDr (all : List Oper) (B : List Nat) (n : Nat) : Nat → Array Bool → Bool → SS → (SS → Prop) → Prop
  | 0, listed, _, s, K => bif Region.seqB .any all.toArray (all.length - n) n listed then K s else False
  | f + 1, listed, flag, s, K => match Region.ready .any all.toArray listed with
    | [] => False
    | r :: rs => match pickI (takeOk P all B flag listed s) (r :: rs) with
      | some i => bif Nat.blt i n then (match nth all i with
        | some o => match o.guard with
          | none => match pureX P (gB B s) [] o with
            | some (ob, fc, x) => obl ob (fct fc (putK s o.dst (.p x) (fun s' => sxDr all B n f (listed.setIfInBounds i true) flag s' K)))
            | none => False
          | some (g, want) => match nth all g with
            | some og => match og.dst, o.dst with
              | some j, some d => match pureX P (gB B s) [(j, want)] o with
                | some (ob, _, x) => oblIf (gcond s.fr j want) ob (sxDr all B n f (listed.setIfInBounds i true) flag (setF s d (.gd j want x)) K)
                | none => False
              | _, _ => False
            | none => False
        | none => False) else False
      | none => match rs with
        | [] => bif Nat.blt r n then (match nth all r with
          | some o => stOne P Γ all B o s (fun s' => sxDr all B n f (listed.setIfInBounds r true) true s' K)
          | none => False) else False
        | [q] => (bif Nat.blt r n then (match nth all r with
          | some o => stOne P Γ all B o s (fun s' => sxDr all B n f (listed.setIfInBounds r true) true s' K)
          | none => False) else False) ∧ (bif Nat.blt q n then (match nth all q with
          | some o => stOne P Γ all B o s (fun s' => sxDr all B n f (listed.setIfInBounds q true) true s' K)
          | none => False) else False)
        | _ :: _ :: _ => False
end
theorem pickI_ok {f : Nat → Bool} : ∀ {l : List Nat} {i : Nat}, pickI f l = some i → i ∈ l ∧ f i = true
  | [], i, h => by simp [pickI] at h
  | x :: r, i, h => by
    simp only [pickI] at h
    cases hb : f x with
    | true => rw [hb] at h; simp only [cond_true, Option.some.injEq] at h; subst h; exact ⟨by simp, hb⟩
    | false => rw [hb] at h; obtain ⟨h1, h2⟩ := pickI_ok h; exact ⟨by simp [h1], h2⟩
section
variable {N : Nat} {P : Program} {Γ : Gam}
/-- What goes along with the state through such a region. -/
structure DrI (B : List Nat) (π0 : Pers) (ρ0 : Env) (w0 : World) (flag : Bool) (s : SS) (π : Pers) (ρ : Env) (a : Act) (w : World) : Prop where
  sat : Sat π ρ s a w
  old : ∀ g, (π0 g ≠ none ∨ ∃ k, memN B k = true ∧ own (ρ0 k) g) → w.heap[g]? = w0.heap[g]?
  mono : ∀ g vs, π0 g = some vs → π g = some vs
  same : flag = false → π = π0
  keep : ∀ k, memN B k = true → ρ k = ρ0 k ∧ k < s.hp.length
abbrev OldW (B : List Nat) (π0 : Pers) (ρ0 : Env) (w0 : World) : World → Prop := fun w => ∀ g, (π0 g ≠ none ∨ ∃ k, memN B k = true ∧ own (ρ0 k) g) → w.heap[g]? = w0.heap[g]?
theorem DrI.alike {B : List Nat} {π0 : Pers} {ρ0 : Env} {w0 : World} {flag e : Bool} {s : SS} {π : Pers} {ρ : Env} {a : Act} {w w' : World} (I : DrI B π0 ρ0 w0 flag s π ρ a w) (he : (!(flag && e)) = true) (hw : OldW B π0 ρ0 w0 w') : Alike (pz e π) ρ (gB B s).hp w w' := by
  intro g hg
  have key : (π0 g ≠ none ∨ ∃ k, memN B k = true ∧ own (ρ0 k) g) := by
    rcases hg with hg | ⟨k, it, hk, hit, hr⟩
    · cases e with
      | false => simp [pz] at hg
      | true =>
        have hf : flag = false := by simpa using he
        rw [I.same hf] at hg
        exact .inl (by simpa [pz] using hg)
    · rcases goneH_get hk with h | ⟨h1, _⟩
      · exact absurd h hit
      · rw [Nat.zero_add] at h1
        exact .inr ⟨k, h1, by rw [← (I.keep k h1).1]; exact hr⟩
  rw [hw g key, I.old g key]

abbrev Fr (N : Nat) (B : List Nat) (π : Pers) (ρ : Env) (s : SS) (w : World) (K : SS → Prop) (a' : Act) (w' : World) : Prop :=
  ∃ π' ρ' s', Sat π' ρ' s' a' w' ∧ Step N ρ s.hp w π ρ' s'.hp w' π' ∧ (∀ k, memN B k = true → k < s.hp.length → ρ' k = ρ k ∧ ∀ g, own (ρ k) g → w'.heap[g]? = w.heap[g]?) ∧ (∀ g, π g ≠ none → w'.heap[g]? = w.heap[g]?) ∧ s.hp.length ≤ s'.hp.length ∧ K s'
theorem fr_know {B : List Nat} {π : Pers} {ρ : Env} {s : SS} {a : Act} {w w' : World} {j : Nat} {b : Bool} {K : SS → Prop} (h : Fr N B π ρ (know s j b) w K a w') : Fr N B π ρ s w K a w' := h
theorem stOne_ok (hΓ : GOK P Γ) {all : List Oper} {B : List Nat} {π : Pers} {ρ : Env} {o : Oper} {s : SS} {K : SS → Prop} {a : Act} {w : World} (S : Sat π ρ s a w) (h : stOne P Γ all B o s K) (Q : Exit → Act → World → Prop) :
    if Region.wanted o (yielded all.toArray a.tmps) then o.wp P a w (Fr N B π ρ s w K) Q else Fr N B π ρ s w K (a.put o.dst undef) w := by
  unfold stOne at h
  split at h
  · rename_i hgd
    rw [if_pos (by simp [Region.wanted, hgd])]
    exact frOne_ok (N := N) hΓ S h Q
  · rename_i g want hgd
    split at h
    · rename_i og hog
      rw [nth_eq] at hog
      split at h
      · rename_i j hj
        have hw : Region.wanted o (yielded all.toArray a.tmps) = true ↔ a.tmps[j]? = some (.bool want) := by
          simp only [Region.wanted, hgd]
          exact yield_iff hog hj a.tmps
        have skip : ∀ s1 : SS, Sat π ρ s1 a w → s1.hp = s.hp → a.tmps[j]? ≠ some (.bool want) → skipS P o j want s1 K → if Region.wanted o (yielded all.toArray a.tmps) then o.wp P a w (Fr N B π ρ s w K) Q else Fr N B π ρ s w K (a.put o.dst undef) w := by
          intro s1 S1 hs1 hne hh
          rw [if_neg (fun hy => hne (hw.1 hy))]
          unfold skipS at hh
          cases hd : o.dst with
          | none => rw [hd] at hh; exact ⟨π, ρ, s1, S1, by rw [hs1]; exact Step.refl _ _ _ _ _, fun _ _ _ => ⟨rfl, fun _ _ => rfl⟩, fun _ _ => rfl, by rw [hs1]; exact Nat.le_refl _, hh⟩
          | some d =>
            rw [hd] at hh
            simp only at hh
            cases hjd : (Nat.blt d s1.nt && !(Nat.beq j d)) with
            | false => rw [hjd] at hh; exact hh.elim
            | true =>
              rw [hjd] at hh
              simp only [cond_true] at hh
              simp only [Bool.and_eq_true, Bool.not_eq_true'] at hjd
              have hdn : d < s1.nt := by simpa [Nat.blt_eq] using hjd.1
              have hjd := beq_ne hjd.2
              have hlen : d < a.tmps.size := by rw [S1.nt]; exact hdn
              refine ⟨π, ρ, _, sat_set S1 hdn undef (.gd j want (skipX P o)) ⟨undef, ?_, .inr ⟨?_, rfl⟩⟩, ?_, fun _ _ _ => ⟨rfl, fun _ _ => rfl⟩, fun _ _ => rfl, ?_, hh⟩
              · rw [Array.getElem?_setIfInBounds_self_of_lt hlen]
              · rw [Array.getElem?_setIfInBounds_ne (fun e => hjd e.symm)]; exact hne
              · show Step N ρ s.hp w π ρ s1.hp w π
                rw [hs1]; exact Step.refl _ _ _ _ _
              · show s.hp.length ≤ s1.hp.length
                rw [hs1]; exact Nat.le_refl _
        have run : ∀ (s1 : SS) (b : Bool), Sat π ρ s1 a w → s1.hp = s.hp → a.tmps[j]? = some (.bool b) → gdFr P Γ B o j b want s1 K → if Region.wanted o (yielded all.toArray a.tmps) then o.wp P a w (Fr N B π ρ s w K) Q else Fr N B π ρ s w K (a.put o.dst undef) w := by
          intro s1 b S1 hs1 h1 hh
          have exe : ∀ s2 : SS, Sat π ρ s2 a w → s2.hp = s.hp → b = want → frOne P Γ B o s2 K → if Region.wanted o (yielded all.toArray a.tmps) then o.wp P a w (Fr N B π ρ s w K) Q else Fr N B π ρ s w K (a.put o.dst undef) w := by
            intro s2 S2 hs2 hbw hh
            rw [if_pos (hw.2 (by rw [h1, hbw]))]
            have := frOne_ok (N := N) hΓ S2 hh Q
            rw [hs2] at this
            exact this
          unfold gdFr at hh
          cases b with
          | true =>
            cases want with
            | true => exact exe _ (sat_know S1 h1) hs1 rfl hh
            | false => exact skip _ (sat_know S1 h1) hs1 (by rw [h1]; simp) hh
          | false =>
            cases want with
            | true => exact skip _ (sat_know S1 h1) hs1 (by rw [h1]; simp) hh
            | false => exact exe _ (sat_know S1 h1) hs1 rfl hh
        split at h
        · rename_i b hb
          obtain ⟨v, h1, h2⟩ := S.fs j _ hb
          simp only [DenP, DenC] at h2
          subst h2
          exact run s b S rfl h1 h
        · rename_i j' b' b hb
          obtain ⟨v, h1, h2⟩ := S.fs j _ hb
          split at h
          · rename_i c hc
            obtain ⟨v', h1', h2'⟩ := S.fs j' _ hc
            simp only [DenP, DenC] at h2'
            subst h2'
            have same : c = b' → a.tmps[j]? = some (.bool b) := fun hcb => by
              rcases h2 with ⟨_, h2⟩ | ⟨h2, _⟩
              · simp only [DenP, DenC] at h2; rw [h1, h2]
              · exact absurd (by rw [h1', hcb]) h2
            have other : c ≠ b' → a.tmps[j]? ≠ some (.bool want) := fun hcb => by
              rcases h2 with ⟨h2, _⟩ | ⟨_, h2⟩
              · rw [h1'] at h2; simp only [Option.some.injEq, Value.bool.injEq] at h2; exact absurd h2 hcb
              · rw [h1, h2]; simp [undef]
            split at h
            · cases c with
              | true => exact run _ b (sat_know S h1') rfl (same rfl) h
              | false => exact skip _ (sat_know S h1') rfl (other (by simp)) h
            · cases c with
              | true => exact skip _ (sat_know S h1') rfl (other (by simp)) h
              | false => exact run _ b (sat_know S h1') rfl (same rfl) h
          · exact h.elim
        · exact h.elim
      · exact h.elim
    · exact h.elim
theorem sxDr_ok (hΓ : GOK P Γ) {all : List Oper} {B : List Nat} {n : Nat} {π0 : Pers} {ρ0 : Env} {w0 : World} {Q : Exit → Act → World → Prop} {K : SS → Prop} {πs : Pers} {ρs : Env} {hs : List HB} {ws : World}
    (hsel : Region.noSelect all.toArray = true) (htl : ∀ (i : Nat), i < n → ∀ (listed : Array Bool), HeadInv .any all.toArray n listed → listed.getD i true = false → ∀ t, n ≤ t → t ∉ Region.ready .any all.toArray listed)
    (hQ : ∀ c a w, ¬ Q (.panic c) a w) (hK : ∀ s π ρ a w, Sat π ρ s a w → Step N ρs hs ws πs ρ s.hp w π → K s → wpList P all.toArray Q (all.drop n) a w) :
    ∀ (f : Nat) (listed : Array Bool) (flag : Bool) (s : SS) (π : Pers) (ρ : Env) (a : Act) (w : World), HeadInv .any all.toArray n listed → DrI B π0 ρ0 w0 flag s π ρ a w → Step N ρs hs ws πs ρ s.hp w π → sxDr P Γ all B n f listed flag s K →
      wpHL P .any all.toArray Q (OldW B π0 ρ0 w0) n (fun listed a w => Region.seqB .any all.toArray (all.length - n) n listed = true ∧ wpList P all.toArray Q (all.drop n) a w) f listed a w
  | 0, listed, flag, s, π, ρ, a, w, inv, I, St, h => by
    simp only [sxDr] at h
    cases hb : Region.seqB .any all.toArray (all.length - n) n listed with
    | false => rw [hb] at h; exact h.elim
    | true => rw [hb] at h; exact ⟨hb, hK s π ρ a w I.sat St h⟩
  | f + 1, listed, flag, s, π, ρ, a, w, inv, I, St, h => by
    have ih := sxDr_ok (B := B) (π0 := π0) (ρ0 := ρ0) (w0 := w0) hΓ hsel htl hQ hK f
    simp only [sxDr] at h
    split at h
    · exact h.elim
    · rename_i r rs hrs
      split at h
      · rename_i i hpk
        obtain ⟨hmem, htk⟩ := pickI_ok hpk
        cases hin : Nat.blt i n with
        | false => rw [hin] at h; exact h.elim
        | true =>
          rw [hin] at h
          simp only [cond_true] at h
          have hin : i < n := by simpa [Nat.blt_eq] using hin
          have hr : i ∈ Region.ready .any all.toArray listed := by rw [hrs]; exact hmem
          split at h
          · rename_i o ho
            have ho' : all.toArray[i]? = some o := by rw [nth_eq] at ho; simpa using ho
            unfold takeOk at htk
            rw [ho] at htk
            simp only [Bool.and_eq_true] at htk
            obtain ⟨htk, hfree⟩ := htk
            have first : ∀ (v : Value) (s' : SS), YieldsIf P all.toArray (OldW B π0 ρ0 w0) o v a → Sat π ρ s' (a.put o.dst v) w → s'.hp = s.hp → sxDr P Γ all B n f (listed.setIfInBounds i true) flag s' K →
                wpHL P .any all.toArray Q (OldW B π0 ρ0 w0) n (fun listed a w => Region.seqB .any all.toArray (all.length - n) n listed = true ∧ wpList P all.toArray Q (all.drop n) a w) (f + 1) listed a w := by
              intro v s' hy S' hh hd
              refine wpHL_first ho' (Region.noSelect_spec hsel) hin (htl i hin) (fun c a w hq => absurd hq (hQ _ _ _)) (fun l a w hl => seqB_ready hl.1) f listed a w inv (Region.free_spec ho' hfree) hr hy I.old ?_
              refine ih _ flag s' π ρ _ w (inv.set hr hin) ⟨S', I.old, I.mono, I.same, fun k hk => ?_⟩ (by rw [hh]; exact St) hd
              rw [hh]; exact I.keep k hk
            split at h
            · rename_i hgd
              rw [hgd] at htk
              simp only [Bool.and_eq_true] at htk
              split at h
              · rename_i ob fc x hp
                obtain ⟨hob, hK'⟩ := obl_out h
                obtain ⟨hf, u, hrun, hden⟩ := pureX_u (sat_gone B I.sat) (gh_nil _) hp hob
                obtain ⟨s', g1, g2, g3⟩ := putK_ok I.sat hden (fct_out hK' hf)
                exact first u s' (.inl ⟨by simp [Region.wanted, hgd], fun w' hw' => hrun w' (I.alike htk.2 hw')⟩) g1 g3 g2
              · exact h.elim
            · rename_i g want hgd
              rw [hgd] at htk
              simp only at htk
              split at h
              · rename_i og hog
                rw [hog] at htk
                simp only at htk
                have hog' := hog
                rw [nth_eq] at hog'
                split at h
                · rename_i j d hj hd
                  rw [hj, hd] at htk
                  simp only [Bool.and_eq_true, Bool.not_eq_true'] at htk
                  obtain ⟨⟨⟨hsome, hfl⟩, hdn⟩, hjd⟩ := htk
                  have hw : Region.wanted o (yielded all.toArray a.tmps) = true ↔ a.tmps[j]? = some (.bool want) := by
                    simp only [Region.wanted, hgd]
                    exact yield_iff hog' hj a.tmps
                  have hdn : d < s.nt := by simpa [Nat.blt_eq] using hdn
                  have hjd := beq_ne hjd
                  split at h
                  · rename_i ob fc x hp
                    obtain ⟨hob, hK'⟩ := oblIf_out h
                    have hlen : d < a.tmps.size := by rw [I.sat.nt]; exact hdn
                    by_cases hyes : Region.wanted o (yielded all.toArray a.tmps) = true
                    · have hT := hw.1 hyes
                      obtain ⟨_, u, hrun, hden⟩ := pureX_u (sat_gone B I.sat) (gh_cons (gh_nil _) hT) hp (hob (gcond_ok I.sat hT))
                      refine first u (setF s d (.gd j want x)) (.inl ⟨hyes, fun w' hw' => hrun w' (I.alike (by rw [hfl]; rfl) hw')⟩) ?_ rfl hK'
                      rw [hd]
                      refine sat_set I.sat hdn u (.gd j want x) ⟨u, ?_, .inl ⟨?_, hden⟩⟩
                      · rw [Array.getElem?_setIfInBounds_self_of_lt hlen]
                      · rw [Array.getElem?_setIfInBounds_ne (fun e => hjd e.symm)]; exact hT
                    · refine first undef (setF s d (.gd j want x)) (.inr ⟨by simpa using hyes, rfl⟩) ?_ rfl hK'
                      rw [hd]
                      refine sat_set I.sat hdn undef (.gd j want x) ⟨undef, ?_, .inr ⟨?_, rfl⟩⟩
                      · rw [Array.getElem?_setIfInBounds_self_of_lt hlen]
                      · rw [Array.getElem?_setIfInBounds_ne (fun e => hjd e.symm)]; exact fun hT => hyes (hw.2 hT)
                  · exact h.elim
                · exact h.elim
              · exact h.elim
          · exact h.elim
      · have one : ∀ i, i ∈ Region.ready .any all.toArray listed → (bif Nat.blt i n then (match nth all i with
            | some o => stOne P Γ all B o s (fun s' => sxDr P Γ all B n f (listed.setIfInBounds i true) true s' K)
            | none => False) else False) → i < n ∧ wpOp P all.toArray Q i (fun a' w' => OldW B π0 ρ0 w0 w' ∧ wpHL P .any all.toArray Q (OldW B π0 ρ0 w0) n (fun listed a w => Region.seqB .any all.toArray (all.length - n) n listed = true ∧ wpList P all.toArray Q (all.drop n) a w) f (listed.setIfInBounds i true) a' w') a w := by
          intro i hr h
          cases hin : Nat.blt i n with
          | false => rw [hin] at h; exact h.elim
          | true =>
            rw [hin] at h
            simp only [cond_true] at h
            have hin : i < n := by simpa [Nat.blt_eq] using hin
            split at h
            · rename_i o ho
              have ho' : all.toArray[i]? = some o := by rw [nth_eq] at ho; simpa using ho
              refine ⟨hin, ?_⟩
              have hst := stOne_ok (N := N) hΓ I.sat h Q
              have step : ∀ a' w', Fr N B π ρ s w (fun s' => sxDr P Γ all B n f (listed.setIfInBounds i true) true s' K) a' w' → OldW B π0 ρ0 w0 w' ∧ wpHL P .any all.toArray Q (OldW B π0 ρ0 w0) n (fun listed a w => Region.seqB .any all.toArray (all.length - n) n listed = true ∧ wpList P all.toArray Q (all.drop n) a w) f (listed.setIfInBounds i true) a' w' := by
                rintro a' w' ⟨π', ρ', s', S', St', hB, hπ, hlen, hd⟩
                have hold : OldW B π0 ρ0 w0 w' := by
                  intro g hg
                  rw [← I.old g hg]
                  rcases hg with hg | ⟨k, hk, hr0⟩
                  · refine hπ g ?_
                    cases h0 : π0 g with
                    | none => exact absurd h0 hg
                    | some vs => rw [I.mono g vs h0]; simp
                  · obtain ⟨h1, h2⟩ := I.keep k hk
                    exact (hB k hk h2).2 g (by rw [h1]; exact hr0)
                refine ⟨hold, ih _ true s' π' ρ' a' w' (inv.set hr hin) ⟨S', hold, fun g vs hg => St'.pmono g vs (I.mono g vs hg), fun h => (by cases h), fun k hk => ?_⟩ (St.trans St') hd⟩
                obtain ⟨h1, h2⟩ := I.keep k hk
                exact ⟨(hB k hk h2).1.trans h1, Nat.lt_of_lt_of_le h2 hlen⟩
              unfold wpOp
              simp only [ho']
              split at hst
              · rename_i hwt
                rw [if_pos hwt]
                exact .inl (Oper.wp_mono_next step hst)
              · rename_i hwt
                rw [if_neg hwt]
                exact step _ _ hst
            · exact h.elim
        split at h
        · refine ⟨by rw [hrs]; simp, fun i hi => ?_⟩
          have hi' := hi
          rw [hrs] at hi'
          obtain rfl : i = r := by simpa using hi'
          exact one i hi h
        · rename_i q _
          refine ⟨by rw [hrs]; simp, fun i hi => ?_⟩
          have hi' := hi
          rw [hrs] at hi'
          rcases List.mem_cons.1 hi' with rfl | hi'
          · exact one i hi h.1
          · obtain rfl : i = q := by simpa using hi'
            exact one i hi h.2
        · exact h.elim
end
end Go.Proofs.Ytloiimhmmcheoaa.Sx
namespace Go.Proofs.Ytloiimhmmcheoaa.Sx
open Go
set_option linter.unusedVariables false
set_option linter.unusedSimpArgs false

/-- From where on the operations come one behind the other. -/
def tailN (ops : Array Oper) : Nat → Nat → Nat
  | 0, k => k
  | f + 1, k => bif Region.sinkB .any ops k && Region.chainB .any ops k then k else tailN ops f (k + 1)
def tmpsOf : List Operand → List Nat
  | [] => []
  | .tmp t :: r => t :: tmpsOf r
  | _ :: r => tmpsOf r
def callTmps : List Oper → List Nat
  | [] => []
  | o :: r => (match o.op with
    | .call c => (match c.callee with | .value f => tmpsOf (f :: c.args.toList) | _ => [])
    | _ => []) ++ callTmps r
/-- The slot from which what stands in t is had, by moves, loads and steps into structs; whether by a load. -/
def wayOf (all : List Oper) : Nat → Nat → List (Nat × Bool)
  | 0, _ => []
  | f + 1, t => match all.find? (fun o => match o.dst with | some d => Nat.beq d t | none => false) with
    | none => [(t, false)]
    | some o => match o.op with
      | .move (.tmp v) => wayOf all f v
      | .assign (.tmp v) => wayOf all f v
      | .nilCheck (.tmp v) => wayOf all f v
      | .load _ (.tmp v) => (wayOf all f v).map fun p => (p.1, true)
      | .fieldAddr _ (.tmp v) _ => wayOf all f v
      | .indexAddr _ (.tmp v) _ => wayOf all f v
      | .slice _ (.tmp v) _ _ _ => wayOf all f v
      | _ => []
/-- What the cells hold that these lead to. -/
def derefs (h : List HB) : List CV → List CV
  | [] => []
  | c :: r => (match refC c with
    | some b => (match nth h b with | some (.cells _ cs) => cs | _ => [c])
    | none => []) ++ derefs h r
def rootsT (all : List Oper) (h : List HB) (fr : List (Nat × SV)) : List (Nat × Bool) → List CV
  | [] => []
  | (t, d) :: r => (let l := (match lk fr t with | some v => (match v with | .p x => cellsOfP x | .gd _ _ x => cellsOfP x | .tup l => flatten l) | none => []); match d with | true => derefs h l | false => l) ++ rootsT all h fr r
def ways (all : List Oper) : List Nat → List (Nat × Bool)
  | [] => []
  | t :: r => wayOf all 20 t ++ ways all r
def rowTmps : List Oper → List Nat
  | [] => []
  | o :: r => (match o.op with
    | .call c => (match c.callee, c.args.toList with | .builtin .append, .tmp t :: _ => [t] | .builtin .copy, .tmp t :: _ => [t] | _, _ => [])
    | .mapUpdate _ (.tmp t) _ _ => [t]
    | .buildSlice _ _ parts => tmpsOf (parts.toList.map (·.2))
    | _ => []) ++ rowTmps r
def rowsOf (h : List HB) : List Nat → List Nat
  | [] => []
  | b :: r => match nth h b with
    | some (.cells _ _) => rowsOf h r
    | some .gone => rowsOf h r
    | some _ => b :: rowsOf h r
    | none => rowsOf h r
def protH (T : List Nat) : Nat → List HB → List Nat
  | _, [] => []
  | k, it :: r => bif memN T k then protH T (k + 1) r else match it with
    | .gone => protH T (k + 1) r
    | _ => k :: protH T (k + 1) r
def protB (all : List Oper) (s : SS) : List Nat := protH (reach s.hp 1000 (rootsT all s.hp s.fr (ways all (callTmps all))) [] ++ rowsOf s.hp (reach s.hp 1000 (rootsT all s.hp s.fr ((ways all (rowTmps all)).map fun p => (p.1, false))) [])) 0 s.hp
def falses : Nat → List Bool
  | 0 => []
  | n + 1 => false :: falses n
theorem falses_eq : ∀ n, falses n = List.replicate n false
  | 0 => rfl
  | n + 1 => by rw [falses, falses_eq n]; rfl
section
variable (P : Program) (Γ : Gam) (Λ : Lam)
def sx : Code → Nat → SS → (Exit → SS → Prop) → Prop
  | .skip, _, s, Q => Q .normal s
  | .label _, _, s, Q => Q .normal s
  | .region _ ops draw, _, s, Q => bif draw then (bif P.follows .mixedOrders then (bif Nat.beq (headN ops.toList) ops.toList.length && Region.lexB .any ops then sxSt P ops.toList ops.toList s (Q .normal)
      else (bif Region.lexTailB .any ops (headN ops.toList) then sxSt P ops.toList (ops.toList.take (headN ops.toList)) s (fun s' => sxOps P Γ ops.toList (ops.toList.drop (headN ops.toList)) s' (Q .normal))
      else (bif Region.noSelect ops && (Nat.beq (tailN ops ops.toList.length 0) ops.toList.length || (Nat.blt (tailN ops ops.toList.length 0) ops.toList.length && Region.sinkB .any ops (tailN ops ops.toList.length 0) && Region.chainB .any ops (tailN ops ops.toList.length 0))) && allLt s.hp.length (protB ops.toList s)
        then sxDr P Γ ops.toList (protB ops.toList s) (tailN ops ops.toList.length 0) (tailN ops ops.toList.length 0) (falses ops.toList.length).toArray false s (fun s' => sxOps P Γ ops.toList (ops.toList.drop (tailN ops ops.toList.length 0)) s' (Q .normal)) else False))) else False)
      else sxOps P Γ ops.toList ops.toList s (Q .normal)
  | .seq x y, k, s, Q => sx x k s (thenQ (fun s' => sx y k s' Q) Q)
  | .cond c x y, k, s, Q => match evL s [] c with
    | some (.c (.bool b)) => bif b then sx x k (knowO s c true) Q else sx y k (knowO s c false) Q
    | _ => False
  | .block id c, _, s, Q => sx c id s (blockQ id Q)
  | .loop _, k, s, Q => Λ k s Q
  | .exit id, _, s, Q => Q (.exit id) s
  | .ret, _, s, Q => Q .ret s
  | _, _, _, _ => False
def loopsOf : Code → Nat → List (Nat × Code)
  | .seq x y, k => loopsOf x k ++ loopsOf y k
  | .cond _ x y, k => loopsOf x k ++ loopsOf y k
  | .block id c, _ => loopsOf c id
  | .loop c, k => [(k, c)]
  | _, _ => []
end
section
variable {N : Nat} {P : Program} {Γ : Gam} {Λ : Lam}
def LOK (N : Nat) (P : Program) (Λ : Lam) (l : List (Nat × Code)) : Prop := ∀ k c, (k, c) ∈ l → ∀ s Q, Λ k s Q → W N P (.loop c) s Q
theorem satKnowO {π : Pers} {ρ : Env} {s : SS} {a : Act} {w : World} (S : Sat π ρ s a w) {c : Operand} {b : Bool} (h : a.eval c = .bool b) : Sat π ρ (knowO s c b) a w := by
  cases c with
  | tmp j =>
    refine sat_know S ?_
    simp only [Act.eval, Array.getD_eq_getD_getElem?] at h
    cases hh : a.tmps[j]? with
    | none => rw [hh] at h; simp [undef] at h
    | some z => rw [hh] at h; simp at h; rw [h]
  | const v => exact S
  | global g => exact S
  | func f => exact S
theorem knowO_hp (s : SS) (c : Operand) (b : Bool) : (knowO s c b).hp = s.hp := by cases c <;> rfl
theorem sx_ok (hΓ : GOK P Γ) : ∀ (c : Code) (k : Nat) (s : SS) (Q : Exit → SS → Prop), LOK N P Λ (loopsOf c k) → sx P Γ Λ c k s Q → W N P c s Q
  | .skip, _, s, Q, _, h => fun π ρ a w S => wp_skip ⟨π, ρ, s, S, Step.refl _ _ _ _ _, h⟩
  | .label _, _, s, Q, _, h => fun π ρ a w S => wp_label ⟨π, ρ, s, S, Step.refl _ _ _ _ _, h⟩
  | .exit _, _, s, Q, _, h => fun π ρ a w S => wp_exit ⟨π, ρ, s, S, Step.refl _ _ _ _ _, h⟩
  | .ret, _, s, Q, _, h => fun π ρ a w S => wp_ret ⟨π, ρ, s, S, Step.refl _ _ _ _ _, h⟩
  | .region id ops draw, _, s, Q, _, h => by
    intro π ρ a w S
    simp only [sx] at h
    cases draw with
    | true =>
      simp only [cond_true] at h
      have S1 : Sat π ρ s a { w with drawn := w.drawn + 1 } := ⟨⟨fun k it hk => hb_keep (w := w) (w' := { w with drawn := w.drawn + 1 }) (fun _ _ h => h) (fun _ _ h => h) rfl (fun _ _ => rfl) it (S.hs.items k it hk), S.hs.lt, S.hs.inj, S.hs.apart, S.hs.pers, S.hs.out⟩, S.fs, S.df, S.nt, S.on⟩
      have St1 : Step N ρ s.hp w π ρ s.hp { w with drawn := w.drawn + 1 } π := ⟨rfl, rfl, rfl, Nat.le_refl _, fun _ _ _ => rfl, fun k g hk hr => .inl ⟨k, hk, hr⟩, fun _ _ h => h, fun _ _ h => .inl h, fun k it κ _ hk hκ => ⟨rfl, it, hk, hκ⟩⟩
      cases hf : P.follows .mixedOrders with
      | false => rw [hf] at h; exact h.elim
      | true =>
        rw [hf] at h
        simp only [cond_true] at h
        cases hq : (Nat.beq (headN ops.toList) ops.toList.length && Region.lexB .any ops) with
        | true =>
          rw [hq] at h
          simp only [cond_true] at h
          refine wp_region_still hf (by simp only [Bool.and_eq_true] at hq; exact hq.2) ?_
          have := sxSt_ok (P := P) (all := ops.toList) (K := Q .normal) (R := fun a' => ∃ π' ρ' s', Sat π' ρ' s' a' { w with drawn := w.drawn + 1 } ∧ Step N ρ s.hp w π ρ' s'.hp { w with drawn := w.drawn + 1 } π' ∧ Q .normal s') (π := π) (ρ := ρ) (h0 := s.hp) (w := { w with drawn := w.drawn + 1 })
            (fun s' a' S' hh hk => ⟨π, ρ, s', S', by rw [hh]; exact St1, hk⟩) ops.toList s a S1 rfl h
          simpa using this
        | false =>
          rw [hq] at h
          simp only [cond_false] at h
          cases hq2 : Region.lexTailB .any ops (headN ops.toList) with
          | false =>
            rw [hq2] at h
            simp only [cond_false] at h
            generalize hn : tailN ops ops.toList.length 0 = n at h
            generalize hB : protB ops.toList s = B at h
            cases hq3 : (Region.noSelect ops && (Nat.beq n ops.toList.length || (Nat.blt n ops.toList.length && Region.sinkB .any ops n && Region.chainB .any ops n)) && allLt s.hp.length B) with
            | false => rw [hq3] at h; exact h.elim
            | true =>
              rw [hq3] at h
              simp only [cond_true] at h
              simp only [Bool.and_eq_true, Bool.or_eq_true] at hq3
              obtain ⟨⟨hsel, hnn⟩, hBl⟩ := hq3
              have htoa : ops.toList.toArray = ops := by simp
              have hsz : ops.toList.length = ops.size := by simp
              rw [falses_eq, hsz] at h
              have hrep : (List.replicate ops.size false).toArray = Array.replicate ops.size false := by simp
              rw [hrep] at h
              have hnle : n ≤ ops.size := by
                rcases hnn with h1 | h1
                · rw [beq_eq h1, hsz]; exact Nat.le_refl _
                · have := h1.1.1; rw [hsz] at this; have := (by simpa [Nat.blt_eq] using this : n < ops.size); omega
              have htl : ∀ (i : Nat), i < n → ∀ (listed : Array Bool), HeadInv .any ops.toList.toArray n listed → listed.getD i true = false → ∀ t, n ≤ t → t ∉ Region.ready .any ops.toList.toArray listed := by
                rw [htoa]
                intro i hi listed inv hun t ht
                rcases hnn with h1 | h1
                · intro hr
                  obtain ⟨_, oi, hoi, _⟩ := mem_ready.1 hr
                  have := (Array.getElem?_eq_some_iff.1 hoi).1
                  have := beq_eq h1
                  omega
                · obtain ⟨⟨h2, h3⟩, h4⟩ := h1
                  rw [hsz] at h2
                  exact tail_waits h3 h4 (by simpa [Nat.blt_eq] using h2) inv _ i rfl hi hun t ht
              have inv0 : HeadInv .any ops.toList.toArray n (Array.replicate ops.size false) := by
                rw [htoa]
                exact ⟨by simp, fun j oj _ hl => (by rw [getD_replicate_false] at hl; cases hl), fun t _ ht => getD_in (by simpa using ht) (getD_replicate_false _ _)⟩
              have HL := sxDr_ok (N := N) (B := B) (π0 := π) (ρ0 := ρ) (w0 := { w with drawn := w.drawn + 1 }) (πs := π) (ρs := ρ) (hs := s.hp) (ws := w) (Q := fun e a' w' => e = .normal ∧ ∃ π' ρ' s', Sat π' ρ' s' a' w' ∧ Step N ρ s.hp w π ρ' s'.hp w' π' ∧ Q e s')
                (K := fun s' => sxOps P Γ ops.toList (ops.toList.drop n) s' (Q .normal)) hΓ (by rw [htoa]; exact hsel) htl (fun c a w hq => (by cases hq.1))
                (fun s' π' ρ' a' w' S' St' hk => sxOps_ok (N := N) hΓ (all := ops.toList) (K := Q .normal) (Q := fun e a' w' => e = .normal ∧ ∃ π' ρ' s', Sat π' ρ' s' a' w' ∧ Step N ρ s.hp w π ρ' s'.hp w' π' ∧ Q e s')
                  (fun π2 ρ2 s2 a2 w2 S2 St2 hk2 => ⟨rfl, π2, ρ2, s2, S2, St2, hk2⟩) _ s' π' ρ' a' w' S' St' hk)
                n _ false s π ρ a _ inv0 ⟨S1, fun _ _ => rfl, fun _ _ h => h, fun _ => rfl, fun k hk => ⟨rfl, by
                  obtain ⟨i, hi⟩ := List.mem_iff_getElem?.1 (memN_iff.1 hk)
                  exact allLt_ok hBl i k hi⟩⟩ St1 h
              have HA := wpHL_any (g := ops.size - n) (fun listed a' w' hL => by
                have := wpAny_of_seq (md := .any) (P := P) (ops.toList.drop n) n listed a' w' (fun j => by simp [List.getElem?_drop]) (by rw [List.length_drop]; exact hL.1) hL.2
                rw [List.length_drop, hsz] at this
                exact this) n _ a _ HL
              rw [show n + (ops.size - n) = ops.size by omega, htoa] at HA
              exact wp_mono (wp_region_any hf HA) (fun e a' w' hq => hq.2)
          | true =>
            rw [hq2] at h
            simp only [cond_true] at h
            have H := wp_region_still_tail (P := P) (id := id) (l := ops.toList) (a := a) (w := w) (Q := fun e a' w' => ∃ π' ρ' s', Sat π' ρ' s' a' w' ∧ Step N ρ s.hp w π ρ' s'.hp w' π' ∧ Q e s') (headN ops.toList) hf (by simpa using hq2)
              (sxSt_ok (P := P) (all := ops.toList) (K := fun s' => sxOps P Γ ops.toList (ops.toList.drop (headN ops.toList)) s' (Q .normal)) (π := π) (ρ := ρ) (h0 := s.hp) (w := { w with drawn := w.drawn + 1 })
                (fun s' a' S' hh hk => sxOps_ok (N := N) hΓ (all := ops.toList) (K := Q .normal) (Q := fun e a' w' => ∃ π' ρ' s', Sat π' ρ' s' a' w' ∧ Step N ρ s.hp w π ρ' s'.hp w' π' ∧ Q e s')
                  (fun π' ρ' s2 a2 w2 S2 St2 hk2 => ⟨π', ρ', s2, S2, St2, hk2⟩) _ s' π ρ a' _ S' (by rw [hh]; exact St1) hk) _ s a S1 rfl h)
            simpa using H
    | false =>
      refine wp_region_list ?_
      have := sxOps_ok (N := N) hΓ (all := ops.toList) (K := Q .normal) (Q := fun e a' w' => ∃ π' ρ' s', Sat π' ρ' s' a' w' ∧ Step N ρ s.hp w π ρ' s'.hp w' π' ∧ Q e s')
        (fun π' ρ' s' a' w' S' St hk => ⟨π', ρ', s', S', St, hk⟩) ops.toList s π ρ a w S (Step.refl _ _ _ _ _) h
      simpa using this
  | .seq x y, k, s, Q, hl, h => by
    intro π ρ a w S
    simp only [sx] at h
    have hx := sx_ok hΓ x k s _ (fun k' c hc => hl k' c (by simp only [loopsOf, List.mem_append]; exact .inl hc)) h π ρ a w S
    refine wp_seq (wp_mono hx ?_)
    rintro e a' w' ⟨π', ρ', s', S', St, hq⟩
    cases e with
    | normal =>
      have hy := sx_ok hΓ y k s' Q (fun k' c hc => hl k' c (by simp only [loopsOf, List.mem_append]; exact .inr hc)) hq π' ρ' a' w' S'
      refine wp_mono hy ?_
      rintro e a2 w2 ⟨π2, ρ2, s2, S2, St2, hq2⟩
      exact ⟨π2, ρ2, s2, S2, St.trans St2, hq2⟩
    | exit id => exact ⟨π', ρ', s', S', St, hq⟩
    | goto l => exact ⟨π', ρ', s', S', St, hq⟩
    | ret => exact ⟨π', ρ', s', S', St, hq⟩
    | panic c => exact ⟨π', ρ', s', S', St, hq⟩
    | outgrown => exact ⟨π', ρ', s', S', St, hq⟩
  | .cond c x y, k, s, Q, hl, h => by
    intro π ρ a w S
    simp only [sx] at h
    split at h
    · rename_i b hc
      have hv := evL_ok S (gh_nil _) hc
      simp only [DenP, DenC] at hv
      refine wp_cond hv ?_
      cases b with
      | true =>
        have := sx_ok hΓ x k _ Q (fun k' c hc => hl k' c (by simp only [loopsOf, List.mem_append]; exact .inl hc)) h π ρ a w (satKnowO S hv)
        rw [knowO_hp] at this
        exact this
      | false =>
        have := sx_ok hΓ y k _ Q (fun k' c hc => hl k' c (by simp only [loopsOf, List.mem_append]; exact .inr hc)) h π ρ a w (satKnowO S hv)
        rw [knowO_hp] at this
        exact this
    · exact h.elim
  | .block id c, _, s, Q, hl, h => by
    intro π ρ a w S
    simp only [sx] at h
    have hx := sx_ok hΓ c id s _ hl h π ρ a w S
    refine wp_block (wp_mono hx ?_)
    rintro e a' w' ⟨π', ρ', s', S', St, hq⟩
    cases e with
    | exit id' =>
      simp only [blockQ] at hq
      simp only [Exit.inBlock]
      by_cases he : id' = id
      · subst he
        rw [if_pos rfl]
        rw [Nat.beq_refl] at hq
        exact ⟨π', ρ', s', S', St, hq⟩
      · rw [if_neg he]
        have : Nat.beq id' id = false := by cases hb : Nat.beq id' id with | false => rfl | true => exact absurd (beq_eq hb) he
        rw [this] at hq
        exact ⟨π', ρ', s', S', St, hq⟩
    | normal => exact ⟨π', ρ', s', S', St, hq⟩
    | goto l => exact ⟨π', ρ', s', S', St, hq⟩
    | ret => exact ⟨π', ρ', s', S', St, hq⟩
    | panic c => exact ⟨π', ρ', s', S', St, hq⟩
    | outgrown => exact ⟨π', ρ', s', S', St, hq⟩
  | .loop c, k, s, Q, hl, h => hl k c (by simp [loopsOf]) s Q h
  | .rangeFunc .., _, _, _, _, h => h.elim
  | .scope _, _, _, _, _, h => h.elim
  | .goto _, _, _, _, _, h => h.elim
  | .refuse _, _, _, _, _, h => h.elim
end

/-! ### what a state fits -/
def cellsOfS : SV → List CV | .p x => cellsOfP x | .gd _ _ x => cellsOfP x | .tup l => flatten l
def rootsF (fr : List (Nat × SV)) : List (Nat × SV) → List CV
  | [] => []
  | (i, _) :: r => (match lk fr i with | some v => cellsOfS v | none => []) ++ rootsF fr r
def rootsH : List HB → List CV
  | [] => []
  | .cells _ cs :: r => cs ++ rootsH r
  | _ :: r => rootsH r
def names (N : Nat) (s : SS) (l : List CV) : List Nat := reach s.hp 1000 (rootsH (s.hp.take N) ++ l) (rangeN N)
def fitsF (fr : List (Nat × SV)) : List (Nat × SV) → Prop
  | [] => True
  | (i, v) :: r => lk fr i = some v ∧ fitsF fr r
def okN (N : Nat) (n : Nat) (m : List Nat) : Bool := nodupN m && allLt n m && isPre N m
/-- The state s, but for what t doesn't speak of, is t. -/
def Fits (N : Nat) (s t : SS) : Prop :=
  let m := names N s (rootsF s.fr t.fr)
  (okN N s.hp.length m = true ∧ once t.fr = true ∧ s.nt = t.nt) ∧ fitsF (renF (posOf m) s.fr) t.fr ∧ subH s.hp m m = t.hp
theorem fitsF_get {fr : List (Nat × SV)} : ∀ {t : List (Nat × SV)}, fitsF fr t → ∀ i v, lk t i = some v → lk fr i = some v
  | [], _, i, v, h => by simp [lk] at h
  | (j, u) :: r, hf, i, v, h => by
    simp only [lk] at h
    cases hj : Nat.beq j i with
    | true => rw [hj] at h; simp only [cond_true, Option.some.injEq] at h; subst h; rw [← beq_eq hj]; exact hf.1
    | false => rw [hj] at h; exact fitsF_get hf.2 i v h
theorem fits_ok {N : Nat} {s t : SS} (h : Fits N s t) {π : Pers} {ρ : Env} {a : Act} {w : World} (S : Sat π ρ s a w) : ∃ ρ', Sat π ρ' t a w ∧ ∀ {ρ2 h2 w2 π2}, Step N ρ2 h2 w2 π2 ρ s.hp w π → Step N ρ2 h2 w2 π2 ρ' t.hp w π := by
  unfold Fits at h
  dsimp only at h
  generalize names N s (rootsF s.fr t.fr) = m at h
  obtain ⟨⟨hm, ho, hnt⟩, hf, hh⟩ := h
  simp only [okN, Bool.and_eq_true] at hm
  have S1 := sat_restrict S hm.1.1 hm.1.2
  refine ⟨envOf ρ m, ⟨?_, ?_, S.df, ?_, ho⟩, ?_⟩
  · have := S1.hs; unfold restrict at this; rw [hh] at this; exact this
  · intro i v hi
    exact S1.fs i v (fitsF_get hf i v hi)
  · rw [← hnt]; exact S.nt
  · intro ρ2 h2 w2 π2 St
    have hlen := subH_len (h := s.hp) (m := m) m
    refine ⟨St.os, St.tape, St.output, St.size, St.block, ?_, St.pmono, St.pfresh, ?_⟩
    · intro k g hk hr
      obtain ⟨b, hb, hr'⟩ := own_env hr
      exact St.fresh b g (allLt_ok hm.1.2 k b hb) hr'
    · intro k it κ hk hit hκ
      obtain ⟨e1, it', e2, k2⟩ := St.keep k it κ hk hit hκ
      have hmk := isPre_ok hm.2 k hk
      have hlt : k < (subH s.hp m m).length := by rw [hlen]; exact (List.getElem?_eq_some_iff.1 hmk).1
      have hget := List.getElem?_eq_getElem hlt
      obtain ⟨b, hb, he⟩ := subH_get hget
      rw [hmk] at hb
      cases hb
      refine ⟨by rw [← e1]; simp [envOf, hmk], renH (posOf m) it', ?_, by rw [knd_ren]; exact k2⟩
      rw [← hh, hget, he, e2]
      rfl

/-! ### functions -/
def argsF : Nat → List PV → List (Nat × SV)
  | _, [] => []
  | i, p :: r => (i, .p p) :: argsF (i + 1) r
def resOf (P : Program) (s : SS) : List ResultVar → Option (List PV)
  | [] => some []
  | .tmp t :: r => match lk s.fr t, resOf P s r with
    | some (.p x), some xs => some (x :: xs)
    | _, _ => none
  | .cell a t :: r => match lk s.fr a, resOf P s r with
    | some (.p p), some xs => match loadC P s t p with
      | some ([], _, x) => some (x :: xs)
      | _ => none
    | _, _ => none
def tupOf : List PV → SV | [x] => .p x | l => .tup l
/-- At the end of a function: what it hands back, and the blocks that are known behind it. -/
def retQ (P : Program) (rs : List ResultVar) (N : Nat) (Q : SV → List HB → Prop) : Exit → SS → Prop
  | .normal, s | .ret, s => match resOf P s rs with
    | some l => let m := names N s (flatten l)
      bif okN N s.hp.length m then Q (renS (posOf m) (tupOf l)) (subH s.hp m m) else False
    | none => False
  | _, _ => False
theorem argsF_lk : ∀ {l : List PV} {k i : Nat} {v : SV}, lk (argsF k l) i = some v → ∃ p, l[i - k]? = some p ∧ v = .p p ∧ k ≤ i
  | [], k, i, v, h => by simp [argsF, lk] at h
  | p :: r, k, i, v, h => by
    simp only [argsF, lk] at h
    cases hj : Nat.beq k i with
    | true => rw [hj] at h; simp only [cond_true, Option.some.injEq] at h; have := beq_eq hj; subst this; exact ⟨p, by simp, h.symm, Nat.le_refl _⟩
    | false =>
      rw [hj] at h
      obtain ⟨q, h1, h2, h3⟩ := argsF_lk h
      exact ⟨q, by rw [show i - k = (i - (k + 1)) + 1 by omega, List.getElem?_cons_succ]; exact h1, h2, by omega⟩
theorem argsF_once : ∀ {l : List PV} {k : Nat}, once (argsF k l) = true
  | [], _ => rfl
  | p :: r, k => by
    simp only [argsF, once, Bool.and_eq_true]
    refine ⟨?_, argsF_once⟩
    cases hl : lk (argsF (k + 1) r) k with
    | none => rfl
    | some x => obtain ⟨_, _, _, h3⟩ := argsF_lk hl; omega
def resM (T : Array Value) : ResultVar → Sem Value
  | .tmp t => pure (T.getD t undef)
  | .cell a t => do loadVar t (← asAddr (T.getD a undef))
theorem load_as {P : Program} {t : TypeId} {v u : Value} {w w' : World} (h : (Instr.loadAt t v).run P w = .ok u w') : (do loadVar t (← asAddr v) : Sem Value).run P w = .ok u w' := by
  unfold Instr.loadAt at h
  cases v with
  | pointer A =>
    cases A with
    | none => simp [Instr.sureAddr, stuck] at h
    | some A => exact h
  | _ => simp [Instr.sureAddr, stuck] at h
theorem resOf_ok {P : Program} {π : Pers} {ρ : Env} {s : SS} {a : Act} {w : World} (S : Sat π ρ s a w) : ∀ (rs : List ResultVar) (l : List PV), resOf P s rs = some l → ∃ us : List Value, (rs.mapM (resM a.tmps)).run P w = .ok us w ∧ All2 (DenP π ρ) l us
  | [], l, h => by simp only [resOf, Option.some.injEq] at h; subst h; exact ⟨[], by simp, trivial⟩
  | .tmp t :: r, l, h => by
    simp only [resOf] at h
    split at h
    · rename_i x xs hx hxs
      cases h
      obtain ⟨us, h1, h2⟩ := resOf_ok S r xs hxs
      obtain ⟨v, h3, h4⟩ := S.fs t _ hx
      refine ⟨v :: us, ?_, h4, h2⟩
      simp only [List.mapM_cons, resM, Sem.run_bind, Sem.run_pure, Result.andThen_ok, h1, Array.getD_eq_getD_getElem?, h3, Option.getD_some]
    · cases h
  | .cell ad t :: r, l, h => by
    simp only [resOf] at h
    split at h
    · rename_i p xs hx hxs
      split at h
      · rename_i fc x hl
        cases h
        obtain ⟨us, h1, h2⟩ := resOf_ok S r xs hxs
        obtain ⟨v, h3, h4⟩ := S.fs ad _ hx
        obtain ⟨_, u, h5, h6⟩ := loadC_ok (P := P) S h4 hl trivial
        have h5 := h5 w (Alike.refl _ _ _ _)
        refine ⟨u :: us, ?_, h6, h2⟩
        have h7 := load_as h5
        simp only [List.mapM_cons, resM, Sem.run_bind, Sem.run_pure, Result.andThen_ok, h1, Array.getD_eq_getD_getElem?, h3, Option.getD_some] at h7 ⊢
        rw [h7]
        simp only [Result.andThen_ok, h1]
      · cases h
    · cases h
end Go.Proofs.Ytloiimhmmcheoaa.Sx
namespace Go.Proofs.Ytloiimhmmcheoaa.Sx
open Go
set_option linter.unusedVariables false
set_option linter.unusedSimpArgs false

theorem results_ok {P : Program} {π : Pers} {ρ : Env} {fn : Func} {T : Array Value} {w : World} {l : List PV} {us : List Value} (hr : (fn.results.toList.mapM (resM T)).run P w = .ok us w) (h : All2 (DenP π ρ) l us) : ∃ v, (results fn T).run P w = .ok v w ∧ DenS π ρ (tupOf l) v := by
  have e : results fn T = (do let vs ← fn.results.mapM (resM T); pure (if h : vs.size = 1 then vs[0] else .tuple vs)) := by
    unfold results
    congr 2
  rw [e]
  simp only [Array.mapM_eq_mapM_toList]
  simp only [Sem.run_bind, Sem.run_map, hr, Result.andThen_ok, Sem.run_pure]
  match l, us, h with
  | [], [], _ => exact ⟨_, rfl, [], rfl, trivial⟩
  | [x], [u], h => exact ⟨_, rfl, h.1⟩
  | x :: y :: r, u :: v :: us, h => exact ⟨_, rfl, u :: v :: us, by simp, h⟩
variable {P : Program} {Γ : Gam} {Λ : Lam}
/-- A function does what its body does. -/
theorem spec_of (hΓ : GOK P Γ) {f : FuncId} {fn : Func} {c : Code} (hf : P.funcs[f]? = some fn) (hb : fn.body = some c) {args : List PV} {h : List HB} {Q : SV → List HB → Prop} (hn : Nat.ble args.length fn.ntmps = true) (hl : LOK h.length P Λ (loopsOf c 0))
    (hx : sx P Γ Λ c 0 { nt := fn.ntmps, fr := argsF 0 args, hp := h } (retQ P fn.results.toList h.length Q)) : FSpec P f args h Q := by
  intro π ρ w vs hs ha
  refine calls_of_wp hf hb ?_
  have hlen := all2_len ha
  have hle := Nat.le_of_ble_eq_true hn
  have S : Sat π ρ { nt := fn.ntmps, fr := argsF 0 args, hp := h } { tmps := vs.toArray ++ Array.replicate (fn.ntmps - vs.toArray.size) undef, defers := [] } w := by
    refine ⟨hs, ?_, rfl, ?_, argsF_once⟩
    · intro i v hi
      obtain ⟨p, h1, rfl, _⟩ := argsF_lk hi
      rw [Nat.sub_zero] at h1
      obtain ⟨u, hu, hd⟩ := all2_get ha i p h1
      refine ⟨u, ?_, hd⟩
      have hlt := (List.getElem?_eq_some_iff.1 hu).1
      simp only
      rw [Array.getElem?_append_left (by simpa using hlt)]
      simpa using hu
    · simp; omega
  refine wp_mono (sx_ok (N := h.length) hΓ c 0 _ _ hl hx π ρ _ w S) ?_
  rintro e a' w' ⟨π', ρ', s', S', St, hq⟩
  have fin : (match resOf P s' fn.results.toList with
    | some l => let m := names h.length s' (flatten l)
      bif okN h.length s'.hp.length m then Q (renS (posOf m) (tupOf l)) (subH s'.hp m m) else False
    | none => False) → a'.defers = [] ∧ ∃ v, (results fn a'.tmps).run P w' = .ok v w' ∧ (fun e w' => ∃ v π' ρ' r h', e = Ending.returned v ∧ DenS π' ρ' r v ∧ HSat π' ρ' h' w' ∧ Step h.length ρ h w π ρ' h' w' π' ∧ Q r h') (.returned v) w' := by
    intro hq
    split at hq
    · rename_i l hres
      dsimp only at hq
      generalize names h.length s' (flatten l) = m at hq
      cases hm : okN h.length s'.hp.length m with
      | false => rw [hm] at hq; exact hq.elim
      | true =>
        rw [hm] at hq
        simp only [cond_true] at hq
        obtain ⟨us, h1, h2⟩ := resOf_ok S' _ l hres
        obtain ⟨v, h3, h4⟩ := results_ok (P := P) (w := w') h1 h2
        refine ⟨S'.df, v, h3, v, π', envOf ρ' m, _, _, rfl, dens_ren (ren_env ρ' m) h4, ?_, ?_, hq⟩
        · simp only [okN, Bool.and_eq_true] at hm
          exact hsat_sub S'.hs hm.1.1 hm.1.2
        · simp only [okN, Bool.and_eq_true] at hm
          have hlen := subH_len (h := s'.hp) (m := m) m
          refine ⟨St.os, St.tape, St.output, St.size, St.block, ?_, St.pmono, St.pfresh, ?_⟩
          · intro k g hk hr
            obtain ⟨b, hb, hr'⟩ := own_env hr
            exact St.fresh b g (allLt_ok hm.1.2 k b hb) hr'
          · intro k it κ hk hit hκ
            obtain ⟨e1, it', e2, k2⟩ := St.keep k it κ hk hit hκ
            have hmk := isPre_ok hm.2 k hk
            have hlt : k < (subH s'.hp m m).length := by rw [hlen]; exact (List.getElem?_eq_some_iff.1 hmk).1
            have hget := List.getElem?_eq_getElem hlt
            obtain ⟨b, hb, he⟩ := subH_get hget
            rw [hmk] at hb
            cases hb
            refine ⟨by rw [← e1]; simp [envOf, hmk], renH (posOf m) it', ?_, by rw [knd_ren]; exact k2⟩
            rw [hget, he, e2]
            rfl
    · exact hq.elim
  cases e with
  | normal => exact fin hq
  | ret => exact fin hq
  | exit id => exact hq.elim
  | goto l => exact hq.elim
  | panic c => exact hq.elim
  | outgrown => exact hq.elim

/-- A loop: at every round's head the state is 'st x' for some x of which I holds, and μ goes down. -/
theorem W_loop {α : Type} {N : Nat} {body : Code} (st : α → SS) (I : α → Prop) (μ : α → Nat) {Q : Exit → SS → Prop}
    (hr : ∀ x, I x → W N P body (st x) (thenQ (fun s' => ∃ y, I y ∧ μ y < μ x ∧ Fits N s' (st y)) Q)) : ∀ x, I x → W N P (.loop body) (st x) Q := by
  intro x hx π ρ a w S
  refine wp_loop_ghost (fun n a' w' => ∃ y π' ρ', I y ∧ μ y = n ∧ Sat π' ρ' (st y) a' w' ∧ Step N ρ (st x).hp w π ρ' (st y).hp w' π') (μ x) ⟨x, π, ρ, hx, rfl, S, Step.refl _ _ _ _ _⟩ ?_
  rintro n a1 w1 ⟨y, π1, ρ1, hy, rfl, S1, St1⟩
  refine wp_mono (hr y hy π1 ρ1 a1 w1 S1) ?_
  rintro e a2 w2 ⟨π2, ρ2, s2, S2, St2, hq⟩
  cases e with
  | normal =>
    obtain ⟨z, hz, hlt, hfit⟩ := hq
    obtain ⟨ρ3, S3, hst⟩ := fits_ok hfit S2
    exact ⟨μ z, hlt, z, π2, ρ3, hz, rfl, S3, hst (St1.trans St2)⟩
  | exit id => exact ⟨π2, ρ2, s2, S2, St1.trans St2, hq⟩
  | goto l => exact ⟨π2, ρ2, s2, S2, St1.trans St2, hq⟩
  | ret => exact ⟨π2, ρ2, s2, S2, St1.trans St2, hq⟩
  | panic c => exact ⟨π2, ρ2, s2, S2, St1.trans St2, hq⟩
  | outgrown => exact ⟨π2, ρ2, s2, S2, St1.trans St2, hq⟩
/-- A state of which less is said. -/
theorem W_fits {N : Nat} {c : Code} {s t : SS} {Q : Exit → SS → Prop} (hf : Fits N s t) (h : W N P c t Q) : W N P c s Q := by
  intro π ρ a w S
  obtain ⟨ρ', S', hst⟩ := fits_ok hf S
  refine wp_mono (h π ρ' a w S') ?_
  rintro e a2 w2 ⟨π2, ρ2, s2, S2, St2, hq⟩
  exact ⟨π2, ρ2, s2, S2, (hst (Step.refl N ρ s.hp w π)).trans St2, hq⟩
end Go.Proofs.Ytloiimhmmcheoaa.Sx
namespace Go.Proofs.Ytloiimhmmcheoaa.Sx
open Go
set_option linter.unusedVariables false
set_option linter.unusedSimpArgs false

/-! ### a nil slice is a row of one's own, without elements -/
theorem hsat_nil {π : Pers} {ρ : Env} {h : List HB} {w : World} (H : HSat π ρ h w) (e : TypeId) (t : Ty) : HSat π ρ (h ++ [.row e t ([] : List t.T)]) w := by
  have := hsat_new (w' := w) H (.row e t ([] : List t.T)) none (Nat.le_refl _) (fun _ _ => rfl) (fun g h => h.elim) (.inl ⟨updE_same _ _ _, rfl⟩)
  have e1 : updE ρ h.length none = ρ := by
    funext k
    by_cases hk : k = h.length
    · subst hk; rw [updE_same, H.out _ (Nat.le_refl _)]
    · exact updE_other ρ none hk
  rw [e1] at this
  exact this
theorem step_nil {N : Nat} {ρ ρ' : Env} {h h' : List HB} {w w' : World} {π π' : Pers} (St : Step N ρ h w π ρ' h' w' π') (H : HSat π' ρ' h' w') (it : HB) : Step N ρ h w π ρ' (h' ++ [it]) w' π' := by
  refine ⟨St.os, St.tape, St.output, St.size, St.block, ?_, St.pmono, St.pfresh, ?_⟩
  · intro k g hk hr
    by_cases hkl : k < h'.length
    · exact St.fresh k g hkl hr
    · rw [H.out k (by omega)] at hr; exact hr.elim
  · intro k x κ hk hit hκ
    obtain ⟨e1, it', e2, k2⟩ := St.keep k x κ hk hit hκ
    refine ⟨e1, it', ?_, k2⟩
    rw [List.getElem?_append_left (List.getElem?_eq_some_iff.1 e2).1]
    exact e2
def ownV (t : Ty) (n : Nat) : CV → CV | .nils => .view t n 0 0 | c => c
theorem den_ownV {π : Pers} {ρ : Env} {t : Ty} {n : Nat} {c : CV} {v : Value} (h : DenC π ρ c v) : DenC π ρ (ownV t n c) v := by
  cases c with
  | nils => exact .inl ⟨rfl, none, h⟩
  | _ => exact h
def ownP (t : Ty) (n : Nat) : PV → PV | .c c => .c (ownV t n c) | p => p
theorem denp_ownP {π : Pers} {ρ : Env} {t : Ty} {n : Nat} {c : PV} {v : Value} (h : DenP π ρ c v) : DenP π ρ (ownP t n c) v := by
  cases c with
  | c x => exact den_ownV h
  | agg l => exact h
  | clo f l => exact h
def ownAt {α : Type} (f : α → α) : Nat → List α → List α
  | _, [] => []
  | 0, a :: r => f a :: r
  | i + 1, a :: r => a :: ownAt f i r
theorem all2_ownAt {α β : Type} {R : α → β → Prop} {f : α → α} (hf : ∀ a b, R a b → R (f a) b) : ∀ {l : List α} {m : List β} (i : Nat), All2 R l m → All2 R (ownAt f i l) m
  | [], [], i, _ => by cases i <;> trivial
  | _ :: _, _ :: _, 0, h => ⟨hf _ _ h.1, h.2⟩
  | _ :: _, _ :: _, i + 1, h => ⟨h.1, all2_ownAt hf i h.2⟩
  | [], _ :: _, _, h => h.elim
  | _ :: _, [], _, h => h.elim
theorem ownAt_len {α : Type} {f : α → α} : ∀ (i : Nat) (l : List α), (ownAt f i l).length = l.length
  | i, [] => by cases i <;> rfl
  | 0, _ :: _ => rfl
  | i + 1, _ :: r => by simp only [ownAt, List.length_cons, ownAt_len i r]
def ownS (t : Ty) (n i : Nat) : SV → SV | .p x => .p (ownP t n x) | .tup l => .tup (ownAt (ownP t n) i l) | s => s
def ownH (t : Ty) (n k i : Nat) (h : List HB) : List HB := ownAt (fun it => match it with | .cells e cs => .cells e (ownAt (ownV t n) i cs) | it => it) k h
theorem ownAt_get {α : Type} {f : α → α} : ∀ {i : Nat} {l : List α} {k : Nat} {x : α}, (ownAt f i l)[k]? = some x → ∃ y, l[k]? = some y ∧ (x = y ∨ x = f y)
  | _, [], k, x, h => by simp [ownAt] at h
  | 0, a :: r, k, x, h => by
    cases k with
    | zero => simp only [ownAt, List.getElem?_cons_zero, Option.some.injEq] at h; exact ⟨a, rfl, .inr h.symm⟩
    | succ k => simp only [ownAt, List.getElem?_cons_succ] at h ⊢; exact ⟨x, h, .inl rfl⟩
  | i + 1, a :: r, k, x, h => by
    cases k with
    | zero => simp only [ownAt, List.getElem?_cons_zero, Option.some.injEq] at h; exact ⟨a, rfl, .inl h.symm⟩
    | succ k => simp only [ownAt, List.getElem?_cons_succ] at h ⊢; exact ownAt_get h
theorem ownAt_get' {α : Type} {f : α → α} : ∀ {i : Nat} {l : List α} {k : Nat} {y : α}, l[k]? = some y → (ownAt f i l)[k]? = some y ∨ (ownAt f i l)[k]? = some (f y)
  | _, [], k, x, h => by simp at h
  | 0, a :: r, k, x, h => by
    cases k with
    | zero => simp only [List.getElem?_cons_zero, Option.some.injEq] at h; subst h; exact .inr rfl
    | succ k => exact .inl h
  | i + 1, a :: r, k, x, h => by
    cases k with
    | zero => exact .inl h
    | succ k => simp only [ownAt, List.getElem?_cons_succ] at h ⊢; exact ownAt_get' h
theorem hsat_ownH {π : Pers} {ρ : Env} {h : List HB} {w : World} (H : HSat π ρ h w) (t : Ty) (n k i : Nat) : HSat π ρ (ownH t n k i h) w := by
  refine ⟨?_, ?_, ?_, ?_, H.pers, ?_⟩
  · intro j x hj
    obtain ⟨y, hy, he⟩ := ownAt_get hj
    have h0 := H.items j y hy
    rcases he with rfl | rfl
    · exact h0
    · cases y with
      | cells e cs => obtain ⟨g, vs, h1, h2, h3⟩ := h0; exact ⟨g, vs, by rw [ownAt_len]; exact h1, h2, all2_ownAt (fun _ _ h => den_ownV h) i h3⟩
      | row e t xs => exact h0
      | map ka kt va vt es => exact h0
      | nest e bx fs xs hole => exact h0
      | gone => exact h0
  · intro j hj; unfold ownH at hj; rw [ownAt_len] at hj; exact H.lt j hj
  · intro j j' g hj hj'; unfold ownH at hj hj'; rw [ownAt_len] at hj hj'; exact H.inj j j' g hj hj'
  · intro j g hj; unfold ownH at hj; rw [ownAt_len] at hj; exact H.apart j g hj
  · intro j hj; unfold ownH at hj; rw [ownAt_len] at hj; exact H.out j hj
theorem step_ownH {N : Nat} {ρ ρ' : Env} {h h' : List HB} {w w' : World} {π π' : Pers} (St : Step N ρ h w π ρ' h' w' π') (t : Ty) (n k i : Nat) : Step N ρ h w π ρ' (ownH t n k i h') w' π' := by
  refine ⟨St.os, St.tape, St.output, St.size, St.block, ?_, St.pmono, St.pfresh, ?_⟩
  · intro j g hj; unfold ownH at hj; rw [ownAt_len] at hj; exact St.fresh j g hj
  · intro j x κ hj hit hκ
    obtain ⟨e1, it', e2, k2⟩ := St.keep j x κ hj hit hκ
    refine ⟨e1, ?_⟩
    rcases ownAt_get' (f := fun it => match it with | .cells e cs => .cells e (ownAt (ownV t n) i cs) | it => it) (i := k) e2 with h | h
    · exact ⟨it', h, k2⟩
    · exact ⟨_, h, by cases it' <;> exact k2⟩
/-- The result (of a tuple: its part i), where it is nil, is a row of the caller's own. -/
theorem spec_ownR {P : Program} {f : FuncId} {args : List PV} {h : List HB} {Q : SV → List HB → Prop} (e : TypeId) (t : Ty) (i : Nat) (hs : FSpec P f args h fun r h' => Q r h' ∨ Q (ownS t h'.length i r) (h' ++ [.row e t ([] : List t.T)])) : FSpec P f args h Q := by
  intro π ρ w vs hh ha
  refine (hs π ρ w vs hh ha).mono ?_
  rintro _ w' ⟨v, π', ρ', r, h', rfl, h2, h3, h4, h5⟩
  rcases h5 with h5 | h5
  · exact ⟨v, π', ρ', r, h', rfl, h2, h3, h4, h5⟩
  refine ⟨v, π', ρ', _, _, rfl, ?_, hsat_nil h3 e t, step_nil h4 h3 _, h5⟩
  cases r with
  | p x => exact denp_ownP h2
  | tup l => obtain ⟨us, h6, h7⟩ := h2; exact ⟨us, h6, all2_ownAt (fun _ _ h => denp_ownP h) i h7⟩
  | gd j b x => exact h2.elim
/-- Cell i of block k, where it is nil, is a row of the block's own. -/
theorem spec_ownH {P : Program} {f : FuncId} {args : List PV} {h : List HB} {Q : SV → List HB → Prop} (e : TypeId) (t : Ty) (k i : Nat) (hs : FSpec P f args h fun r h' => Q r h' ∨ Q r (ownH t h'.length k i h' ++ [.row e t ([] : List t.T)])) : FSpec P f args h Q := by
  intro π ρ w vs hh ha
  refine (hs π ρ w vs hh ha).mono ?_
  rintro _ w' ⟨v, π', ρ', r, h', rfl, h2, h3, h4, h5⟩
  rcases h5 with h5 | h5
  · exact ⟨v, π', ρ', r, h', rfl, h2, h3, h4, h5⟩
  have H := hsat_nil (hsat_ownH h3 t h'.length k i) e t
  exact ⟨v, π', ρ', _, _, rfl, h2, H, step_nil (step_ownH h4 t h'.length k i) (hsat_ownH h3 t h'.length k i) _, h5⟩

/-! ### shapes of cells and blocks -/
inductive CS where
  | int (k : IntKind) | bool | str | row (t : Ty) | ptr (b : Nat) | nilp | view (t : Ty) (b : Nat) | all (t : Ty) (b : Nat) | mp (b : Nat) | nilm | nils
abbrev CS.T : CS → Type
  | .int _ => Int | .bool => Bool | .str => ByteArray | .row t => List t.T | .view _ _ => Nat × Nat | .all _ _ => Nat | _ => Unit
def CS.enc : (s : CS) → s.T → CV
  | .int k, n => .int k n | .bool, b => .bool b | .str, s => .str s | .row t, xs => .row t xs | .ptr b, _ => .ptr b 0 | .nilp, _ => .nilp
  | .view t b, x => .view t b x.1 x.2 | .all t b, n => .view t b 0 n | .mp b, _ => .mp b | .nilm, _ => .nilm | .nils, _ => .nils
def CS.dec : (s : CS) → CV → Option s.T
  | .int k, .int k' n => bif decide (k' = k) then some n else none
  | .bool, .bool b => some b
  | .str, .str s => some s
  | .row t, .row t' xs => if h : t' = t then some (h ▸ xs) else none
  | .ptr b, .ptr b' 0 => bif Nat.beq b' b then some () else none
  | .nilp, .nilp => some ()
  | .view t b, .view t' b' a n => bif decide (t' = t) && Nat.beq b' b then some (a, n) else none
  | .all t b, .view t' b' 0 n => bif decide (t' = t) && Nat.beq b' b then some n else none
  | .mp b, .mp b' => bif Nat.beq b' b then some () else none
  | .nilm, .nilm => some ()
  | .nils, .nils => some ()
  | _, _ => none
theorem CS.dec_ok : ∀ (s : CS) (c : CV) (x : s.T), s.dec c = some x → c = s.enc x := by
  intro s c x h
  unfold CS.dec at h
  split at h
  · rename_i k k' n
    cases hk : decide (k' = k) with
    | false => rw [hk] at h; cases h
    | true => rw [hk] at h; have := of_decide_eq_true hk; subst this; cases h; rfl
  · cases h; rfl
  · cases h; rfl
  · rename_i t t' xs
    split at h
    · rename_i ht; subst ht; cases h; rfl
    · cases h
  · rename_i b b'
    cases hb : Nat.beq b' b with
    | false => rw [hb] at h; cases h
    | true => have := beq_eq hb; subst this; rfl
  · rfl
  · rename_i t b t' b' a n
    cases hb : (decide (t' = t) && Nat.beq b' b) with
    | false => rw [hb] at h; cases h
    | true =>
      rw [hb] at h
      simp only [Bool.and_eq_true, decide_eq_true_eq] at hb
      obtain ⟨rfl, hb⟩ := hb
      have := beq_eq hb
      subst this
      cases h; rfl
  · rename_i t b t' b' n
    cases hb : (decide (t' = t) && Nat.beq b' b) with
    | false => rw [hb] at h; cases h
    | true =>
      rw [hb] at h
      simp only [Bool.and_eq_true, decide_eq_true_eq] at hb
      obtain ⟨rfl, hb⟩ := hb
      have := beq_eq hb
      subst this
      cases h; rfl
  · rename_i b b'
    cases hb : Nat.beq b' b with
    | false => rw [hb] at h; cases h
    | true => have := beq_eq hb; subst this; rfl
  · rfl
  · rfl
  · cases h
abbrev CS.TL : List CS → Type
  | [] => Unit
  | s :: r => s.T × CS.TL r
def CS.encL : (l : List CS) → CS.TL l → List CV
  | [], _ => []
  | s :: r, x => s.enc x.1 :: CS.encL r x.2
def CS.decL : (l : List CS) → List CV → Option (CS.TL l)
  | [], [] => some ()
  | s :: r, c :: cs => match s.dec c, CS.decL r cs with
    | some x, some xs => some (x, xs)
    | _, _ => none
  | _, _ => none
theorem CS.decL_ok : ∀ (l : List CS) (cs : List CV) (x : CS.TL l), CS.decL l cs = some x → cs = CS.encL l x
  | [], [], x, h => rfl
  | s :: r, c :: cs, x, h => by
    simp only [CS.decL] at h
    split at h
    · rename_i y ys h1 h2
      cases h
      rw [CS.dec_ok s c y h1, CS.decL_ok r cs ys h2]
      rfl
    · cases h
  | [], _ :: _, _, h => by simp [CS.decL] at h
  | _ :: _, [], _, h => by simp [CS.decL] at h
/-! ### words for contracts: the shapes of arguments -/
inductive AS where
  | int (k : IntKind) | bool | str | row (t : Ty) | data (t : Ty) | ptr (b : Nat) | nilp | cell (s : CS) | clo (f : FuncId) (l : List CS) | agg (l : List CS)
abbrev AS.T : AS → Type
  | .int _ => Int | .bool => Bool | .str => ByteArray | .row t => List t.T | .data t => t.T | .ptr _ => Unit | .nilp => Unit | .cell s => s.T | .clo _ l => CS.TL l | .agg l => CS.TL l
def AS.enc : (s : AS) → s.T → PV
  | .int k, n => .c (.int k n) | .bool, b => .c (.bool b) | .str, s => .c (.str s) | .row t, xs => .c (.row t xs) | .data t, x => .agg (toCV t x) | .ptr b, _ => .c (.ptr b 0) | .nilp, _ => .c .nilp | .cell s, x => .c (s.enc x) | .clo f l, x => .clo f (CS.encL l x) | .agg l, x => .agg (CS.encL l x)
def AS.dec : (s : AS) → PV → Option s.T
  | .int k, .c (.int k' n) => bif decide (k' = k) then some n else none
  | .bool, .c (.bool b) => some b
  | .str, .c (.str s) => some s
  | .row t, .c (.row t' xs) => if h : t' = t then some (h ▸ xs) else none
  | .row t, .c .nils => some ([] : List t.T)
  | .data t, .agg l => match fromCV t l with | some (x, []) => some x | _ => none
  | .ptr b, .c (.ptr b' 0) => bif Nat.beq b' b then some () else none
  | .nilp, .c .nilp => some ()
  | .cell s, .c c => s.dec c
  | .clo f l, .clo f' cs => bif Nat.beq f' f then CS.decL l cs else none
  | .agg l, .agg cs => CS.decL l cs
  | _, _ => none
/-- What p says q says, too. -/
def LeP (p q : PV) : Prop := ∀ π ρ v, DenP π ρ p v → DenP π ρ q v
theorem fromCV_le : ∀ (t : Ty) (l r : List CV) (x : t.T) (π : Pers) (ρ : Env) (vs : List Value), fromCV t l = some (x, r) → All2 (DenC π ρ) l vs → All2 (DenC π ρ) (toCV t x ++ r) vs := by
  intro t l r x π ρ vs h ha
  obtain ⟨v1, v2, rfl, h1, h2⟩ := fromCV_ok t l vs x r ha h
  exact all2_append (toCV_ok t x v1 h1) h2
theorem AS.dec_ok : ∀ (s : AS) (p : PV) (x : s.T), s.dec p = some x → LeP p (s.enc x) := by
  intro s p x h π ρ v hv
  unfold AS.dec at h
  split at h
  · rename_i k k' n
    cases hb : decide (k' = k) with
    | false => rw [hb] at h; cases h
    | true => rw [hb] at h; cases h; have := of_decide_eq_true hb; subst this; exact hv
  · cases h; exact hv
  · cases h; exact hv
  · rename_i t t' xs
    split at h
    · rename_i ht; subst ht; cases h; exact hv
    · cases h
  · cases h
    have hv' : v = .slice none 0 0 := hv
    subst hv'
    exact ⟨none, 0, rfl, Nat.le_refl _, by simp [maxLen], .inl rfl⟩
  · rename_i t l
    split at h
    · rename_i y hy
      cases h
      obtain ⟨vs, rfl, h2⟩ := hv
      refine ⟨vs, rfl, ?_⟩
      have := fromCV_le t l [] _ π ρ vs hy h2
      simpa using this
    · cases h
  · rename_i b b'
    cases hb : Nat.beq b' b with
    | false => rw [hb] at h; cases h
    | true => rw [hb] at h; cases h; have := beq_eq hb; subst this; exact hv
  · cases h; exact hv
  · rename_i s c
    rw [CS.dec_ok s c x h] at hv
    exact hv
  · rename_i f l f' cs
    cases hb : Nat.beq f' f with
    | false => rw [hb] at h; cases h
    | true => rw [hb] at h; have := beq_eq hb; subst this; rw [CS.decL_ok l cs x h] at hv; exact hv
  · rename_i l cs
    rw [CS.decL_ok l cs x h] at hv; exact hv
  · cases h
abbrev AS.TL : List AS → Type
  | [] => Unit
  | s :: r => s.T × AS.TL r
def AS.encL : (l : List AS) → AS.TL l → List PV
  | [], _ => []
  | s :: r, x => s.enc x.1 :: AS.encL r x.2
def AS.decL : (l : List AS) → List PV → Option (AS.TL l)
  | [], [] => some ()
  | s :: r, p :: ps => match s.dec p, AS.decL r ps with
    | some x, some xs => some (x, xs)
    | _, _ => none
  | _, _ => none
theorem AS.decL_ok : ∀ (l : List AS) (ps : List PV) (x : AS.TL l), AS.decL l ps = some x → All2 LeP ps (AS.encL l x)
  | [], [], x, _ => trivial
  | [], _ :: _, x, h => by simp [AS.decL] at h
  | _ :: _, [], x, h => by simp [AS.decL] at h
  | s :: r, p :: ps, x, h => by
    simp only [AS.decL] at h
    split at h
    · rename_i y ys hy hys
      cases h
      exact ⟨AS.dec_ok s p y hy, AS.decL_ok r ps ys hys⟩
    · cases h
theorem all2_le {π : Pers} {ρ : Env} : ∀ {l m : List PV} {vs : List Value}, All2 LeP l m → All2 (DenP π ρ) l vs → All2 (DenP π ρ) m vs
  | [], [], [], _, _ => trivial
  | _ :: _, _ :: _, _ :: _, h, h' => ⟨h.1 _ _ _ h'.1, all2_le h.2 h'.2⟩
  | [], _ :: _, _, h, _ => h.elim
  | _ :: _, [], _, h, _ => h.elim
  | _ :: _, _ :: _, [], _, h' => h'.elim
  | [], [], _ :: _, _, h' => h'.elim
theorem spec_le {P : Program} {f : FuncId} {a b : List PV} {h : List HB} {Q : SV → List HB → Prop} (hl : All2 LeP a b) (hs : FSpec P f b h Q) : FSpec P f a h Q :=
  fun π ρ w vs hh ha => hs π ρ w vs hh (all2_le hl ha)
/-- A contract: the shapes of the arguments, the blocks, what is asked and what comes of it. -/
def trOf {β : Type} (as : List AS) (hd : List HB → Option β) (I : AS.TL as → β → (SV → List HB → Prop) → Prop) : Tr := fun args h Q =>
  match AS.decL as args, hd h with
  | some x, some y => I x y Q
  | _, _ => False
theorem tr_ok {β : Type} {P : Program} {f : FuncId} {as : List AS} {hd : List HB → Option β} {he : β → List HB} {I : AS.TL as → β → (SV → List HB → Prop) → Prop} (hh : ∀ h y, hd h = some y → h = he y)
    (hs : ∀ x y Q, I x y Q → FSpec P f (AS.encL as x) (he y) Q) : ∀ args h Q, trOf as hd I args h Q → FSpec P f args h Q := by
  intro args h Q ht
  unfold trOf at ht
  split at ht
  · rename_i x y hx hy
    obtain rfl := hh h y hy
    exact spec_le (AS.decL_ok as args x hx) (hs x y Q ht)
  · exact ht.elim
def noH : List HB → Option Unit | [] => some () | _ => none
theorem noH_ok : ∀ h y, noH h = some y → h = (fun _ : Unit => ([] : List HB)) y := by
  intro h y hh; cases h with | nil => rfl | cons _ _ => simp [noH] at hh
/-- Contracts of functions by their numbers. -/
def gam : List (Nat × List Bool × Tr) → Gam
  | [], _ => none
  | (k, o, t) :: r, f => bif Nat.beq k f then some (o, t) else gam r f
def GOKL (P : Program) : List (Nat × List Bool × Tr) → Prop
  | [] => True
  | (k, _, t) :: r => (∀ args h Q, t args h Q → FSpec P k args h Q) ∧ GOKL P r
theorem gam_ok {P : Program} : ∀ {l : List (Nat × List Bool × Tr)}, GOKL P l → GOK P (gam l)
  | [], _ => fun f own tr h => by simp [gam] at h
  | (k, o, t) :: r, hl => fun f own tr h => by
    simp only [gam] at h
    cases hb : Nat.beq k f with
    | true => rw [hb] at h; simp only [cond_true, Option.some.injEq, Prod.mk.injEq] at h; obtain ⟨rfl, rfl⟩ := h; rw [← beq_eq hb]; exact hl.1
    | false => rw [hb] at h; exact gam_ok hl.2 f own tr h
/-- What a function's body is asked. -/
def body (P : Program) (Γ : Gam) (Λ : Lam) (fn : Func) (args : List PV) (h : List HB) (Q : SV → List HB → Prop) : Prop :=
  match fn.body with
  | some c => sx P Γ Λ c 0 { nt := fn.ntmps, fr := argsF 0 args, hp := h } (retQ P fn.results.toList h.length Q)
  | none => False
def loopL (fn : Func) : List (Nat × Code) := match fn.body with | some c => loopsOf c 0 | none => []
theorem spec_body {P : Program} {Γ : Gam} {Λ : Lam} (hΓ : GOK P Γ) {f : FuncId} {fn : Func} (hf : P.funcs[f]? = some fn) {args : List PV} {h : List HB} {Q : SV → List HB → Prop} (hn : Nat.ble args.length fn.ntmps = true) (hl : LOK h.length P Λ (loopL fn)) (hb : body P Γ Λ fn args h Q) : FSpec P f args h Q := by
  unfold body at hb
  unfold loopL at hl
  split at hb
  · rename_i c hc
    rw [hc] at hl
    exact spec_of hΓ hf hc hn hl hb
  · exact hb.elim
/-- .. of which less is said. -/
def QF (N : Nat) (Q : Exit → SS → Prop) : Exit → SS → Prop := fun e s => ∃ t, Fits N s t ∧ Q e t
theorem W_QF {N : Nat} {P : Program} {c : Code} {s : SS} {Q : Exit → SS → Prop} (h : W N P c s (QF N Q)) : W N P c s Q := by
  intro π ρ a w S
  refine wp_mono (h π ρ a w S) ?_
  rintro e a' w' ⟨π', ρ', s', S', St, t, hf, hq⟩
  obtain ⟨ρ2, S2, hst⟩ := fits_ok hf S'
  exact ⟨π', ρ2, t, S2, hst St, hq⟩
def pickF (fr : List (Nat × SV)) : List Nat → List (Nat × SV)
  | [] => []
  | i :: r => match lk fr i with | some v => (i, v) :: pickF fr r | none => pickF fr r
def rootsL (fr : List (Nat × SV)) : List Nat → List CV
  | [] => []
  | i :: r => (match lk fr i with | some v => cellsOfS v | none => []) ++ rootsL fr r
/-- The state as far as the slots L go. -/
def canon (N : Nat) (L : List Nat) (s : SS) : Option SS :=
  let m := names N s (rootsL s.fr L)
  bif okN N s.hp.length m && nodupN L then some { nt := s.nt, fr := pickF (renF (posOf m) s.fr) L, hp := subH s.hp m m } else none
theorem pickF_lk {fr : List (Nat × SV)} : ∀ {L : List Nat} {i : Nat} {v : SV}, lk (pickF fr L) i = some v → lk fr i = some v ∧ i ∈ L
  | [], i, v, h => by simp [pickF, lk] at h
  | j :: r, i, v, h => by
    simp only [pickF] at h
    split at h
    · rename_i u hu
      simp only [lk] at h
      cases hb : Nat.beq j i with
      | true => rw [hb] at h; simp only [cond_true, Option.some.injEq] at h; subst h; have := beq_eq hb; subst this; exact ⟨hu, by simp⟩
      | false => rw [hb] at h; obtain ⟨h1, h2⟩ := pickF_lk h; exact ⟨h1, by simp [h2]⟩
    · obtain ⟨h1, h2⟩ := pickF_lk h; exact ⟨h1, by simp [h2]⟩
theorem pickF_once {fr : List (Nat × SV)} : ∀ {L : List Nat}, nodupN L = true → once (pickF fr L) = true
  | [], _ => rfl
  | j :: r, h => by
    simp only [nodupN, Bool.and_eq_true, Bool.not_eq_true'] at h
    simp only [pickF]
    split
    · rename_i u hu
      simp only [once, Bool.and_eq_true]
      refine ⟨?_, pickF_once h.2⟩
      cases hl : lk (pickF fr r) j with
      | none => rfl
      | some x => have := memN_iff.2 (pickF_lk hl).2; rw [this] at h; exact absurd h.1 (by simp)
    · exact pickF_once h.2
theorem canon_ok {N : Nat} {L : List Nat} {s t : SS} (h : canon N L s = some t) {π : Pers} {ρ : Env} {a : Act} {w : World} (S : Sat π ρ s a w) : ∃ ρ', Sat π ρ' t a w ∧ ∀ {ρ2 h2 w2 π2}, Step N ρ2 h2 w2 π2 ρ s.hp w π → Step N ρ2 h2 w2 π2 ρ' t.hp w π := by
  unfold canon at h
  dsimp only at h
  generalize names N s (rootsL s.fr L) = m at h
  cases hq : (okN N s.hp.length m && nodupN L) with
  | false => rw [hq] at h; cases h
  | true =>
    rw [hq] at h
    simp only [cond_true, Option.some.injEq] at h
    simp only [Bool.and_eq_true] at hq
    obtain ⟨hm, hL⟩ := hq
    have hm' := hm
    simp only [okN, Bool.and_eq_true] at hm
    subst h
    have S1 := sat_restrict S hm.1.1 hm.1.2
    refine ⟨envOf ρ m, ⟨S1.hs, fun i v hi => S1.fs i v (pickF_lk hi).1, S.df, S.nt, pickF_once hL⟩, ?_⟩
    intro ρ2 h2 w2 π2 St
    have hlen := subH_len (h := s.hp) (m := m) m
    refine ⟨St.os, St.tape, St.output, St.size, St.block, ?_, St.pmono, St.pfresh, ?_⟩
    · intro k g hk hr
      obtain ⟨b, hb, hr'⟩ := own_env hr
      exact St.fresh b g (allLt_ok hm.1.2 k b hb) hr'
    · intro k it κ hk hit hκ
      obtain ⟨e1, it', e2, k2⟩ := St.keep k it κ hk hit hκ
      have hmk := isPre_ok hm.2 k hk
      have hlt : k < (subH s.hp m m).length := by rw [hlen]; exact (List.getElem?_eq_some_iff.1 hmk).1
      have hget := List.getElem?_eq_getElem hlt
      obtain ⟨b, hb, he⟩ := subH_get hget
      rw [hmk] at hb
      cases hb
      refine ⟨by rw [← e1]; simp [envOf, hmk], renH (posOf m) it', ?_, by rw [knd_ren]; exact k2⟩
      simp only
      rw [hget, he, e2]
      rfl
def cq (N : Nat) (L : List Nat) (K : SS → Prop) : SS → Prop := fun s => match canon N L s with | some t => K t | none => False
def cQ (N : Nat) (L : List Nat) (Q : Exit → SS → Prop) : Exit → SS → Prop := fun e s => match canon N L s with | some t => Q e t | none => False
theorem W_cQ {N : Nat} {P : Program} {c : Code} {s : SS} {L : List Nat} {Q : Exit → SS → Prop} (h : W N P c s (cQ N L Q)) : W N P c s Q := by
  intro π ρ a w S
  refine wp_mono (h π ρ a w S) ?_
  rintro e a' w' ⟨π', ρ', s', S', St, hq⟩
  unfold cQ at hq
  split at hq
  · rename_i t ht
    obtain ⟨ρ2, S2, hst⟩ := canon_ok ht S'
    exact ⟨π', ρ2, t, S2, hst St, hq⟩
  · exact hq.elim
/-- A loop, of which at each end only the slots L (L') are told. -/
theorem W_loopC {α : Type} {N : Nat} {P : Program} {body : Code} (st : α → SS) (I : α → Prop) (μ : α → Nat) (L L' : List Nat) {Q : Exit → SS → Prop}
    (hr : ∀ x, I x → W N P body (st x) (thenQ (cq N L fun t => ∃ y, t = st y ∧ I y ∧ μ y < μ x) (cQ N L' Q))) : ∀ x, I x → W N P (.loop body) (st x) Q := by
  intro x hx
  refine W_cQ (L := L') ?_
  intro π ρ a w S
  refine wp_loop_ghost (fun n a' w' => ∃ y π' ρ', I y ∧ μ y = n ∧ Sat π' ρ' (st y) a' w' ∧ Step N ρ (st x).hp w π ρ' (st y).hp w' π') (μ x) ⟨x, π, ρ, hx, rfl, S, Step.refl _ _ _ _ _⟩ ?_
  rintro n a1 w1 ⟨y, π1, ρ1, hy, rfl, S1, St1⟩
  refine wp_mono (hr y hy π1 ρ1 a1 w1 S1) ?_
  rintro e a2 w2 ⟨π2, ρ2, s2, S2, St2, hq⟩
  cases e with
  | normal =>
    simp only [thenQ, cq] at hq
    split at hq
    · rename_i t ht
      obtain ⟨z, rfl, hz, hlt⟩ := hq
      obtain ⟨ρ3, S3, hst⟩ := canon_ok ht S2
      exact ⟨μ z, hlt, z, π2, ρ3, hz, rfl, S3, hst (St1.trans St2)⟩
    · exact hq.elim
  | exit id => exact ⟨π2, ρ2, s2, S2, St1.trans St2, hq⟩
  | goto l => exact ⟨π2, ρ2, s2, S2, St1.trans St2, hq⟩
  | ret => exact ⟨π2, ρ2, s2, S2, St1.trans St2, hq⟩
  | panic c => exact ⟨π2, ρ2, s2, S2, St1.trans St2, hq⟩
  | outgrown => exact ⟨π2, ρ2, s2, S2, St1.trans St2, hq⟩
/-- A loop's contract: from a state that fits 'st x', where I x, one of the ends 'O x e t'. -/
def lamOf {α : Type} (N : Nat) (L : List Nat) (st : α → SS) (I : α → Prop) (O : α → (Exit → SS → Prop) → Prop) : SS → (Exit → SS → Prop) → Prop := fun s Q => cq N L (fun t => ∃ x, t = st x ∧ I x ∧ O x Q) s
theorem lam_ok {α : Type} {N : Nat} {P : Program} {c : Code} {L : List Nat} {st : α → SS} {I : α → Prop} {O : α → (Exit → SS → Prop) → Prop} (h : ∀ x Q, I x → O x Q → W N P (.loop c) (st x) Q) : ∀ s Q, lamOf N L st I O s Q → W N P (.loop c) s Q := by
  intro s Q hl
  unfold lamOf cq at hl
  split at hl
  · rename_i t ht
    obtain ⟨x, rfl, hi, ho⟩ := hl
    intro π ρ a w S
    obtain ⟨ρ', S', hst⟩ := canon_ok ht S
    refine wp_mono (h x Q hi ho π ρ' a w S') ?_
    rintro e a2 w2 ⟨π2, ρ2, s2, S2, St2, hq⟩
    exact ⟨π2, ρ2, s2, S2, (hst (Step.refl N ρ s.hp w π)).trans St2, hq⟩
  · exact hl.elim
/-- .. of which at a return the slots L2, else the slots L1 are told. -/
def cQE (N : Nat) (L1 L2 : List Nat) (Q : Exit → SS → Prop) : Exit → SS → Prop
  | .ret, s => cq N L2 (Q .ret) s
  | e, s => cq N L1 (Q e) s
theorem cQE_out {N : Nat} {L1 L2 : List Nat} {Q : Exit → SS → Prop} {e : Exit} {s : SS} (h : cQE N L1 L2 Q e s) : ∃ L t, canon N L s = some t ∧ Q e t := by
  have key : ∀ L, cq N L (Q e) s → ∃ L t, canon N L s = some t ∧ Q e t := by
    intro L hh
    unfold cq at hh
    split at hh
    · rename_i t ht; exact ⟨L, t, ht, hh⟩
    · exact hh.elim
  cases e <;> exact key _ h
theorem W_loopE {α : Type} {N : Nat} {P : Program} {body : Code} (st : α → SS) (I : α → Prop) (μ : α → Nat) (L L1 L2 : List Nat) {Q : Exit → SS → Prop}
    (hr : ∀ x, I x → W N P body (st x) (thenQ (cq N L fun t => ∃ y, t = st y ∧ I y ∧ μ y < μ x) (cQE N L1 L2 Q))) : ∀ x, I x → W N P (.loop body) (st x) Q := by
  intro x hx π ρ a w S
  refine wp_loop_ghost (fun n a' w' => ∃ y π' ρ', I y ∧ μ y = n ∧ Sat π' ρ' (st y) a' w' ∧ Step N ρ (st x).hp w π ρ' (st y).hp w' π') (μ x) ⟨x, π, ρ, hx, rfl, S, Step.refl _ _ _ _ _⟩ ?_
  rintro n a1 w1 ⟨y, π1, ρ1, hy, rfl, S1, St1⟩
  refine wp_mono (hr y hy π1 ρ1 a1 w1 S1) ?_
  rintro e a2 w2 ⟨π2, ρ2, s2, S2, St2, hq⟩
  have out : ∀ e, cQE N L1 L2 Q e s2 → ∃ π' ρ' s', Sat π' ρ' s' a2 w2 ∧ Step N ρ (st x).hp w π ρ' s'.hp w2 π' ∧ Q e s' := by
    intro e he
    obtain ⟨L', t, ht, hq⟩ := cQE_out he
    obtain ⟨ρ3, S3, hst⟩ := canon_ok ht S2
    exact ⟨π2, ρ3, t, S3, hst (St1.trans St2), hq⟩
  cases e with
  | normal =>
    simp only [thenQ, cq] at hq
    split at hq
    · rename_i t ht
      obtain ⟨z, rfl, hz, hlt⟩ := hq
      obtain ⟨ρ3, S3, hst⟩ := canon_ok ht S2
      exact ⟨μ z, hlt, z, π2, ρ3, hz, rfl, S3, hst (St1.trans St2)⟩
    · exact hq.elim
  | exit id => exact out _ hq
  | goto l => exact out _ hq
  | ret => exact out _ hq
  | panic c => exact out _ hq
  | outgrown => exact out _ hq
def LOKL (N : Nat) (P : Program) (Λ : Lam) : List (Nat × Code) → Prop
  | [] => True
  | (k, c) :: r => (∀ s Q, Λ k s Q → W N P (.loop c) s Q) ∧ LOKL N P Λ r
theorem lokl {N : Nat} {P : Program} {Λ : Lam} : ∀ {l : List (Nat × Code)}, LOKL N P Λ l → LOK N P Λ l
  | [], _ => fun k c h => by simp at h
  | (k, c) :: r, h => fun k' c' hm => by
    rcases List.mem_cons.1 hm with e | hm
    · cases e; exact h.1
    · exact lokl h.2 k' c' hm
def lam : List (Nat × (SS → (Exit → SS → Prop) → Prop)) → Lam
  | [], _, _, _ => False
  | (k, f) :: r, n, s, Q => bif Nat.beq k n then f s Q else lam r n s Q
def noLam : Lam := fun _ _ _ => False
theorem noLam_ok {N : Nat} {P : Program} {l : List (Nat × Code)} : LOK N P noLam l := fun _ _ _ _ _ h => h.elim
end Go.Proofs.Ytloiimhmmcheoaa.Sx
namespace Go.Proofs.Ytloiimhmmcheoaa.Sx
open Go Go.RowKit Go.ChangeShapes Go.WideShapes
set_option linter.unusedVariables false
set_option linter.unusedSimpArgs false

/-- Data as it may come in. -/
def wfT : (t : Ty) → t.T → Prop
  | .int k, n => (Lit.int k n).wf = true
  | .bool, _ => True
  | .str, s => s.size ≤ 140737488351232
  | .unit, _ => True
  | .prod a b, x => wfT a x.1 ∧ wfT b x.2
  | .row t, xs => xs.length ≤ 140737488351232 ∧ ∀ x ∈ xs, wfT t x
  | .fix t, x => wfT t x
def isFs (P : Program) (rec : TypeId → Ty → Bool) : List Field → Ty → Nat → Bool
  | [], .unit, _ => true
  | [f], t, off => Nat.beq f.offset off && Nat.beq (P.cellsOf f.type) t.sz && rec f.type t
  | f :: g :: r, .prod a b, off => Nat.beq f.offset off && Nat.beq (P.cellsOf f.type) a.sz && rec f.type a && isFs P rec (g :: r) b (off + a.sz)
  | _, _, _ => false
def isTy (P : Program) : Nat → TypeId → Ty → Bool
  | 0, _, _ => false
  | k + 1, T, ty => match P.underlying T, ty with
    | some (.int kd), .int k' => decide (k' = kd)
    | some .bool, .bool => true
    | some .string, .str => true
    | some (.slice e), .row u => isTy P k e u && Nat.beq (P.cellsOf e) u.sz && Nat.ble 1 (P.bytesOf e) && Nat.ble 1 u.sz
    | some (.struct fs), ty => isFs P (isTy P k) fs.toList ty 0 && Nat.beq (P.cellsOf T) ty.sz
    | _, _ => false
def piOf (w : World) : Pers := fun g => match w.heap[g]? with | some (.cells vs _ _) => some vs | _ => none
theorem pi_some {w : World} {g : Nat} {vs : Array Value} (h : piOf w g = some vs) : ∃ e f, w.heap[g]? = some (.cells vs e f) := by
  unfold piOf at h
  cases hh : w.heap[g]? with
  | none => rw [hh] at h; cases h
  | some o =>
    rw [hh] at h
    cases o with
    | cells vs' e f => cases h; exact ⟨e, f, rfl⟩
    | _ => cases h
theorem hsat_pi (w : World) : HSat (piOf w) (fun _ => none) [] w :=
  ⟨fun k it h => by simp at h, fun k h => by simp at h, fun k k' g h => by simp at h, fun k g h => by simp at h, fun g vs h => pi_some h, fun _ _ => rfl⟩
section
variable {P : Program} {H : Type} {enc : TypeId × Value → H} {w : World}
def OpensTo (P : Program) (enc : TypeId × Value → H) (w : World) (T : TypeId) (ty : Ty) : Prop :=
  ∀ (fuel : Nat) (cs : List Value) (x : DataW H × List MemPlace), DataW.trod enc P w 0 (fun _ => true) true fuel T cs = some x → (∀ n ∈ x.1.weights P T, n ≤ reachBytes) → ∃ y, Rep (piOf w) ty y cs ∧ wfT ty y
theorem opens_fs {rec : TypeId → Ty → Bool} (hrec : ∀ T ty, rec T ty = true → OpensTo P enc w T ty) : ∀ (fs : List Field) (ty : Ty) (off : Nat) (cs : List Value), isFs P rec fs ty off = true →
    (∀ f, f ∈ fs → ∃ (n : Nat) (y : DataW H × List MemPlace), DataW.trod enc P w 0 (fun _ => true) true n f.type ((cs.drop f.offset).take (P.cellsOf f.type)) = some y ∧ ∀ q ∈ y.1.weights P f.type, q ≤ reachBytes) →
    ∃ y, Rep (piOf w) ty y ((cs.drop off).take ty.sz) ∧ wfT ty y
  | [], ty, off, cs, h, _ => by
    cases ty with
    | unit => exact ⟨(), by simp [Rep, Ty.sz], trivial⟩
    | _ => simp [isFs] at h
  | [f], ty, off, cs, h, hf => by
    simp only [isFs, Bool.and_eq_true] at h
    obtain ⟨⟨h1, h2⟩, h3⟩ := h
    obtain ⟨n, y, hy, hw⟩ := hf f (by simp)
    rw [beq_eq h1, beq_eq h2] at hy
    exact hrec _ _ h3 n _ y hy hw
  | f :: g :: r, ty, off, cs, h, hf => by
    cases ty with
    | prod a b =>
      simp only [isFs, Bool.and_eq_true] at h
      obtain ⟨⟨⟨h1, h2⟩, h3⟩, h4⟩ := h
      obtain ⟨n, y, hy, hw⟩ := hf f (by simp)
      rw [beq_eq h1, beq_eq h2] at hy
      obtain ⟨ya, ra, wa⟩ := hrec _ _ h3 n _ y hy hw
      obtain ⟨yb, rb, wb⟩ := opens_fs hrec (g :: r) b (off + a.sz) cs h4 (fun f' hf' => hf f' (List.mem_cons_of_mem _ hf'))
      refine ⟨(ya, yb), ⟨_, _, ?_, ra, rb⟩, wa, wb⟩
      show (cs.drop off).take (a.sz + b.sz) = _
      rw [List.take_add, List.drop_drop]
    | _ => simp [isFs] at h
theorem w_all {e : TypeId} : ∀ {l : List (DataW H)} {y : DataW H}, y ∈ l → ∀ n ∈ y.weights P e, n ∈ DataW.weightsAll P e l
  | a :: l, y, hy, n, hn => by
    simp only [DataW.weightsAll, List.mem_append]
    rcases List.mem_cons.1 hy with rfl | hy
    · exact Or.inl hn
    · exact Or.inr (w_all hy n hn)
theorem opens_ty : ∀ (k : Nat) (T : TypeId) (ty : Ty), isTy P k T ty = true → OpensTo P enc w T ty
  | 0, _, _, h => by simp [isTy] at h
  | k + 1, T, ty, h => by
    intro fuel cs x hx hw
    simp only [isTy] at h
    split at h
    · rename_i kd k' hu
      have := of_decide_eq_true h
      subst this
      obtain ⟨n, rfl, _, hn⟩ := DataW.trod_int hu hx
      exact ⟨n, rfl, hn⟩
    · rename_i hu
      obtain ⟨n, rfl, _⟩ := DataW.trod_bool hu hx
      exact ⟨n, rfl, trivial⟩
    · rename_i hu
      obtain ⟨s, rfl, rfl, _⟩ := DataW.trod_string hu hx
      have h1 := hw s.data.toList.length (by simp [DataW.weights])
      have h2 : reachBytes = 140737488351232 := by decide
      rw [h2] at h1
      have h3 : s.size ≤ 140737488351232 := by simpa using h1
      exact ⟨s, ⟨rfl, Nat.le_trans h3 (by decide)⟩, h3⟩
    · rename_i e u hu
      simp only [Bool.and_eq_true] at h
      obtain ⟨⟨⟨he, hc⟩, hb⟩, hz⟩ := h
      have hc := beq_eq hc
      have hb := Nat.le_of_ble_eq_true hb
      have hz := Nat.le_of_ble_eq_true hz
      have ih := opens_ty k e u he
      rcases Deep.open_slice hu hx with ⟨rfl, rfl⟩ | ⟨a, len, cap, m, n, D, Pl, rfl, _, hl, hm, hmm, rfl, hel⟩
      · exact ⟨([] : List u.T), ⟨_, rfl, none, 0, rfl, Nat.le_refl _, by simp [maxLen], .inl rfl⟩, by simp, fun x hx => by simp at hx⟩
      · have hm' : m = cap := by simpa using hmm
        subst hm'
        have h2 : reachBytes = 140737488351232 := by decide
        have hws : ∀ n ∈ (DataW.slice ((List.range len).map D) ((List.range (m - len)).map fun j => D (len + j))).weights P T, n ≤ reachBytes := hw
        simp only [DataW.weights, hu] at hws
        have hsz := hws _ (List.mem_cons_self)
        rw [h2] at hsz
        simp only [List.length_map, List.length_range] at hsz
        have hcl : ∀ i, i < len → ∃ vs e' f', w.heap[a.block]? = some (.cells vs e' f') ∧ (i = 0 → a.spot = none) := by
          intro i hi
          obtain ⟨cs', h1, h3⟩ := hel i (by omega)
          obtain ⟨_, hlen, hcell⟩ := World.cells?_some h1
          rw [hc] at hlen hcell
          have h0 := hcell 0 hz
          rw [List.getElem?_eq_getElem (by omega)] at h0
          have hbl : ((a.add (i * u.sz)).add 0).block = a.block := by unfold Addr.add; split <;> split <;> rfl
          unfold World.cell? at h0
          split at h0
          · rename_i vs e' f' hh
            rw [hbl] at hh
            split at h0
            · cases h0
            · rename_i hsp
              refine ⟨vs, e', f', hh, fun hi0 => ?_⟩
              subst hi0
              have : ((a.add (0 * u.sz)).add 0) = a := by simp [Addr.add]
              rw [this] at hsp
              cases hs : a.spot with
              | none => rfl
              | some z => rw [hs] at hsp; exact absurd rfl hsp
          · cases h0
        have pick : ∀ i, i < len → ∃ y, (∃ g vs, a.spot = none ∧ a.block = g ∧ piOf w g = some vs ∧ Rep (piOf w) u y (seg vs.toList (a.off + i * u.sz) u.sz)) ∧ wfT u y := by
          intro i hi
          obtain ⟨vs, e', f', hblk, _⟩ := hcl i hi
          have hsp : a.spot = none := by obtain ⟨_, _, _, _, h⟩ := hcl 0 (by omega); exact h rfl
          obtain ⟨cs', h1, h3⟩ := hel i (by omega)
          obtain ⟨_, hlen, hcell⟩ := World.cells?_some h1
          obtain ⟨y, hy, hyw⟩ := ih n cs' _ h3 (fun q hq => hws q (List.mem_cons_of_mem _ (List.mem_append_left _ (w_all (y := D i) (by simp; exact ⟨i, hi, rfl⟩) q hq))))
          rw [hc] at hlen hcell
          refine ⟨y, ⟨a.block, vs, hsp, rfl, by simp [piOf, hblk], ?_⟩, hyw⟩
          have : cs' = seg vs.toList (a.off + i * u.sz) u.sz := by
            apply List.ext_getElem?
            intro j
            unfold seg
            rw [List.getElem?_take]
            by_cases hj : j < u.sz
            · have hq := hcell j hj
              have he : (a.add (i * u.sz)).add j = ⟨a.block, a.off + i * u.sz + j, none⟩ := by
                obtain ⟨b, o, sp⟩ := a
                have hsp' : sp = none := hsp
                subst hsp'
                rw [Addr.add_mid, Addr.add_mid]
              rw [he] at hq
              unfold World.cell? at hq
              simp only [hblk, Option.isSome_none] at hq
              have hq' : vs.toList[a.off + i * u.sz + j]? = cs'[j]? := by simpa using hq
              rw [if_pos hj, List.getElem?_drop]
              exact hq'.symm
            · rw [if_neg hj, List.getElem?_eq_none (by omega)]
          rw [← this]; exact hy
        have hY : ∃ Y : Nat → Option u.T, ∀ i, i < len → ∃ y, Y i = some y ∧ (∃ g vs, a.spot = none ∧ a.block = g ∧ piOf w g = some vs ∧ Rep (piOf w) u y (seg vs.toList (a.off + i * u.sz) u.sz)) ∧ wfT u y := by
          refine ⟨fun i => if hi : i < len then some (Classical.choose (pick i hi)) else none, fun i hi => ⟨_, dif_pos hi, Classical.choose_spec (pick i hi)⟩⟩
        obtain ⟨Y, hY⟩ := hY
        have hlen : ((List.range len).filterMap Y).length = len ∧ ∀ i, i < len → ((List.range len).filterMap Y)[i]? = Y i := by
          clear hsz hws hw hx hel pick hl hm hcl
          induction len with
          | zero => exact ⟨rfl, fun i hi => by omega⟩
          | succ q ih =>
            obtain ⟨i1, i2⟩ := ih (by simp) (fun i hi => hY i (by omega))
            obtain ⟨y, hy, _⟩ := hY q (by omega)
            rw [List.range_succ, List.filterMap_append]
            simp only [List.filterMap_cons, hy, List.filterMap_nil]
            refine ⟨by simp [i1], fun i hi => ?_⟩
            by_cases hq : i < q
            · rw [List.getElem?_append_left (by omega), i2 i hq]
            · have : i = q := by omega
              subst this
              rw [List.getElem?_append_right (by omega), i1]
              simp [hy]
        obtain ⟨hl1, hl2⟩ := hlen
        have hmx : len ≤ 140737488351232 := by
          have h5 : m * 1 ≤ m * P.bytesOf e := Nat.mul_le_mul_left _ hb
          have h6 : len + (m - len) = m := by omega
          rw [h6] at hsz
          omega
        refine ⟨(List.range len).filterMap Y, ⟨_, rfl, some a, m, by rw [hl1], by rw [hl1]; exact hl, hm, ?_⟩, by rw [hl1]; exact hmx, ?_⟩
        · rcases Nat.eq_zero_or_pos len with h0 | h0
          · left; exact List.eq_nil_of_length_eq_zero (by rw [hl1, h0])
          · right
            obtain ⟨y0, hy0, ⟨g, vs, hs, hg, hp, _⟩, _⟩ := hY 0 h0
            refine ⟨g, a.off, vs, ?_, hp, ?_⟩
            · obtain ⟨b, o, sp⟩ := a
              have h1 : sp = none := hs
              have h2 : b = g := hg
              subst h1; subst h2; rfl
            · intro i x hi
              have hjl : i < len := by have := (List.getElem?_eq_some_iff.1 hi).1; omega
              obtain ⟨y, hy, ⟨g', vs', _, hg', hp', hr⟩, _⟩ := hY i hjl
              rw [hl2 i hjl, hy] at hi
              cases hi
              rw [← hg', hg, hp] at hp'
              cases hp'
              exact hr
        · intro z hz
          obtain ⟨j, hj⟩ := List.mem_iff_getElem?.1 hz
          have hjl : j < len := by have := (List.getElem?_eq_some_iff.1 hj).1; omega
          obtain ⟨y, hy, _, c4⟩ := hY j hjl
          rw [hl2 j hjl, hy] at hj
          cases hj
          exact c4
    · rename_i ty _ _ fs hu
      simp only [Bool.and_eq_true] at h
      obtain ⟨h1, h2⟩ := h
      have hsz := beq_eq h2
      obtain ⟨xs, n, rfl, rfl, hl, hlen, hf⟩ := DataW.trod_struct hu hx
      have := opens_fs (P := P) (enc := enc) (w := w) (fun T ty h => opens_ty k T ty h) fs.toList ty 0 cs h1 (fun f hfm => by
        obtain ⟨i, hfi⟩ := List.mem_iff_getElem?.1 hfm
        rw [Array.getElem?_toList] at hfi
        have hi : i < xs.length := by
          have := (Array.getElem?_eq_some_iff.1 hfi).1
          omega
        have h1 := hf i f hfi
        rw [List.getElem?_eq_getElem hi] at h1
        refine ⟨n, xs[i], h1, fun q hq => hw q ?_⟩
        show q ∈ (DataW.agg (xs.map (·.1))).weights P T
        simp only [DataW.weights, hu]
        refine DataW.weights_mem_each (j := i) (t := f.type) (d := xs[i].1) ?_ ?_ q hq
        · rw [List.getElem?_map, Array.getElem?_toList, hfi]; rfl
        · rw [List.getElem?_map, List.getElem?_eq_getElem hi]; rfl)
      obtain ⟨y, hy, hyw⟩ := this
      refine ⟨y, ?_, hyw⟩
      rw [List.drop_zero, List.take_of_length_le (by omega)] at hy
      exact hy
    · cases h
/-- An argument, as it is handed over. -/
def pvOf (P : Program) (T : TypeId) : (t : Ty) → t.T → PV := fun t x => match P.underlying T with
  | some (.struct _) => .agg (toCV t x)
  | _ => match toCV t x with | [c] => .c c | _ => .c .junk
abbrev TL : List Ty → Type
  | [] => Unit
  | t :: r => t.T × TL r
def pvL (P : Program) : List TypeId → (l : List Ty) → TL l → List PV
  | T :: Ts, t :: r, x => pvOf P T t x.1 :: pvL P Ts r x.2
  | _, _, _ => []
def wfTL : (l : List Ty) → TL l → Prop
  | [], _ => True
  | t :: r, x => wfT t x.1 ∧ wfTL r x.2
def isTys (P : Program) (k : Nat) : List TypeId → List Ty → Bool
  | [], [] => true
  | T :: Ts, t :: ts => isTy P k T t && isTys P k Ts ts
  | _, _ => false
theorem rep_cell {π : Pers} {t : Ty} {x : t.T} {v : Value} (h : Rep π t x [v]) : ∀ {ρ : Env} {y : CV}, toCV t x = [y] → DenC π ρ y v := by
  intro ρ y hy
  have := toCV_ok (ρ := ρ) t x _ h
  rw [hy] at this
  exact this.1
theorem open_arg {k : Nat} {T : TypeId} {ty : Ty} (ht : isTy P k T ty = true) {r : Reach} {base : Nat} {v : Value} (hv : Value.okWide P w r base T v) {d : DataW H} {ps : List MemPlace} (h : DataW.Trod enc P w 0 (fun _ => true) true T v d ps) (hz : ∀ n ∈ d.weights P T, n ≤ reachBytes) (ρ : Env) :
    ∃ y, DenP (piOf w) ρ (pvOf P T ty y) v ∧ wfT ty y := by
  obtain ⟨fuel, hf⟩ := h
  obtain ⟨y, hr, hw⟩ := opens_ty k T ty ht fuel _ _ hf hz
  refine ⟨y, ?_, hw⟩
  cases k with
  | zero => simp [isTy] at ht
  | succ k =>
    simp only [isTy] at ht
    unfold pvOf
    split at ht
    · rename_i kd k' hu
      obtain ⟨n, rfl⟩ := okWide_int hu hv
      rw [hu]
      exact rep_cell (ρ := ρ) (t := .int k') hr rfl
    · rename_i hu
      obtain ⟨n, rfl⟩ := okWide_bool hu hv
      rw [hu]
      exact rep_cell (ρ := ρ) (t := .bool) hr rfl
    · rename_i hu
      obtain ⟨n, rfl⟩ := okWide_string hu hv
      rw [hu]
      exact rep_cell (ρ := ρ) (t := .str) hr rfl
    · rename_i e u hu
      obtain ⟨a, l, c, rfl⟩ := okWide_slice hu hv
      rw [hu]
      exact rep_cell (ρ := ρ) (t := .row u) hr rfl
    · rename_i ty _ _ fs hu
      obtain ⟨cs, rfl, _⟩ := okWide_struct hu hv
      have hcs : (Value.agg cs).cells.toList = cs.toList := rfl
      rw [hcs] at hr
      rw [hu]
      exact ⟨cs.toList, by simp, toCV_ok (ρ := ρ) ty y _ hr⟩
    · cases ht
theorem open_all {k : Nat} {r : Reach} {base : Nat} (ρ : Env) : ∀ (Ts : List TypeId) (tys : List Ty) (vs : List Value) (ds : List (DataW H)) (ps : List MemPlace), isTys P k Ts tys = true → (∀ (j : Nat) t v, Ts[j]? = some t → vs[j]? = some v → Value.okWide P w r base t v) →
    DataW.TrodAll enc P w 0 (fun _ => true) true Ts vs ds ps → (∀ (j : Nat) t d, Ts[j]? = some t → ds[j]? = some d → ∀ n ∈ d.weights P t, n ≤ reachBytes) → ∃ ys, All2 (DenP (piOf w) ρ) (pvL P Ts tys ys) vs ∧ wfTL tys ys
  | [], [], vs, ds, ps, _, _, h, _ => by
    cases vs with
    | nil => exact ⟨(), trivial, trivial⟩
    | cons v vs => cases ds <;> simp [DataW.TrodAll] at h
  | T :: Ts, t :: tys, vs, ds, ps, ht, hv, h, hz => by
    simp only [isTys, Bool.and_eq_true] at ht
    obtain ⟨v, vs', d, ds', p, q, rfl, rfl, rfl, h1, h2⟩ := trodAll_cons h
    obtain ⟨y, hy, wy⟩ := open_arg ht.1 (hv 0 T v rfl rfl) h1 (hz 0 T d rfl rfl) ρ
    obtain ⟨ys, hys, wys⟩ := open_all ρ Ts tys vs' ds' q ht.2 (fun j t v h3 h4 => hv (j + 1) t v h3 h4) h2 (fun j t d h3 h4 => hz (j + 1) t d h3 h4)
    exact ⟨(y, ys), ⟨hy, hys⟩, wy, wys⟩
  | [], _ :: _, _, _, _, ht, _, _, _ => by simp [isTys] at ht
  | _ :: _, [], _, _, _, ht, _, _, _ => by simp [isTys] at ht
def allRd (P : Program) : List TypeId → Bool
  | [] => true
  | t :: r => P.readableRec t && Nat.blt t P.types.size && allRd P r
theorem trodAll_stays (hl : laidOutB P = true) {W' : World} (hb : Below w.heap.size w W') : ∀ (Ts : List TypeId) (vs : List Value) (ds : List (DataW H)) (ps : List MemPlace), allRd P Ts = true →
    DataW.TrodAll enc P w 0 (fun _ => true) true Ts vs ds ps → DataW.TrodAll enc P W' 0 (fun b => decide (b < w.heap.size)) true Ts vs ds ps
  | [], vs, ds, ps, _, h => by
    cases vs <;> cases ds <;> simp [DataW.TrodAll] at h ⊢
    exact h
  | T :: Ts, vs, ds, ps, ha, h => by
    simp only [allRd, Bool.and_eq_true, Nat.blt_eq] at ha
    obtain ⟨v, vs', d, ds', p, q, rfl, rfl, rfl, h1, h2⟩ := trodAll_cons h
    refine trodAll_cons_mk (Below.trod hl ha.1.1 ha.1.2 h1 hb ?_) (trodAll_stays hl hb Ts vs' ds' q ha.2 h2)
    obtain ⟨m, hm⟩ := h1
    exact DataW.trod_lt m _ _ _ hm
/-- A law's call, from its contract. -/
theorem law_calls {f : FuncId} {Ts : List TypeId} {tys : List Ty} {ys : TL tys} {args : Array Value} (hs : FSpec P f (pvL P Ts tys ys) [] fun r h' => r = .p (.c (.bool true))) (ha : All2 (DenP (piOf w) (fun _ => none)) (pvL P Ts tys ys) args.toList) :
    Calls P f args w fun e w' => e = .returned (.bool true) ∧ Below w.heap.size w w' := by
  have := hs (piOf w) (fun _ => none) w args.toList (hsat_pi w) ha
  rw [Array.toArray_toList] at this
  refine this.mono ?_
  rintro e w' ⟨v, π', ρ', r, h', rfl, hd, H', St, rfl⟩
  have hv : v = .bool true := hd
  subst hv
  exact ⟨rfl, St.os, St.tape, St.output, St.size, fun g hg => St.block g hg (fun k hk => by simp at hk)⟩
end
end Go.Proofs.Ytloiimhmmcheoaa.Sx
namespace Go.Proofs.Ytloiimhmmcheoaa.Sx
open Go
set_option linter.unusedVariables false
set_option linter.unusedSimpArgs false

inductive HS where
  | cells (t : TypeId) (cs : List CS) | row (e : TypeId) (t : Ty) | map (ka : Bool) (kt : Ty) (va : Bool) (vt : Ty) | nest (e : TypeId) (bx : Option TypeId) (fs : List FT)
abbrev HS.T : HS → Type
  | .cells _ cs => CS.TL cs | .row _ t => List t.T | .map _ kt _ vt => List (kt.T × vt.T) | .nest _ _ fs => List (FsT fs)
def HS.enc : (s : HS) → s.T → HB
  | .cells t cs, x => .cells t (CS.encL cs x) | .row e t, xs => .row e t xs | .map ka kt va vt, es => .map ka kt va vt es | .nest e bx fs, xs => .nest e bx fs xs none
def HS.dec : (s : HS) → HB → Option s.T
  | .cells t cs, .cells t' l => bif Nat.beq t' t then CS.decL cs l else none
  | .row e t, .row e' t' xs => bif Nat.beq e' e then (if h : t' = t then some (h ▸ xs) else none) else none
  | .map ka kt va vt, .map ka' kt' va' vt' es => bif (ka' == ka) && (va' == va) then (if h : kt' = kt ∧ vt' = vt then some (h.1 ▸ h.2 ▸ es) else none) else none
  | .nest e bx fs, .nest e' bx' fs' xs none => bif Nat.beq e' e && decide (bx' = bx) then (if h : fs' = fs then some (h ▸ xs) else none) else none
  | _, _ => none
theorem HS.dec_ok : ∀ (s : HS) (c : HB) (x : s.T), s.dec c = some x → c = s.enc x := by
  intro s c x h
  unfold HS.dec at h
  split at h
  · rename_i t cs t' l
    cases hk : Nat.beq t' t with
    | false => rw [hk] at h; cases h
    | true => rw [hk] at h; have := beq_eq hk; subst this; rw [CS.decL_ok cs l x h]; rfl
  · rename_i e t e' t' xs
    cases hk : Nat.beq e' e with
    | false => rw [hk] at h; cases h
    | true =>
      rw [hk] at h; have := beq_eq hk; subst this
      simp only [cond_true] at h
      split at h
      · rename_i ht; subst ht; cases h; rfl
      · cases h
  · rename_i ka kt va vt ka' kt' va' vt' es
    cases hk : ((ka' == ka) && (va' == va)) with
    | false => rw [hk] at h; cases h
    | true =>
      rw [hk] at h
      simp only [Bool.and_eq_true, beq_iff_eq] at hk
      obtain ⟨rfl, rfl⟩ := hk
      simp only [cond_true] at h
      split at h
      · rename_i ht
        obtain ⟨rfl, rfl⟩ := ht
        cases h; rfl
      · cases h
  · rename_i e bx fs e' bx' fs' xs
    cases hk : (Nat.beq e' e && decide (bx' = bx)) with
    | false => rw [hk] at h; cases h
    | true =>
      rw [hk] at h
      simp only [Bool.and_eq_true, decide_eq_true_eq] at hk
      obtain ⟨h1, rfl⟩ := hk
      have := beq_eq h1
      subst this
      simp only [cond_true] at h
      split at h
      · rename_i ht; subst ht; cases h; rfl
      · cases h
  · cases h
abbrev HS.TL : List HS → Type
  | [] => Unit
  | s :: r => s.T × HS.TL r
def HS.encL : (l : List HS) → HS.TL l → List HB
  | [], _ => []
  | s :: r, x => s.enc x.1 :: HS.encL r x.2
def HS.decL : (l : List HS) → List HB → Option (HS.TL l)
  | [], [] => some ()
  | s :: r, c :: cs => match s.dec c, HS.decL r cs with
    | some x, some xs => some (x, xs)
    | _, _ => none
  | _, _ => none
theorem HS.decL_ok : ∀ (l : List HS) (h : List HB) (x : HS.TL l), HS.decL l h = some x → h = HS.encL l x
  | [], [], x, h => rfl
  | s :: r, c :: cs, x, h => by
    simp only [HS.decL] at h
    split at h
    · rename_i y ys h1 h2
      cases h
      rw [HS.dec_ok s c y h1, HS.decL_ok r cs ys h2]
      rfl
    · cases h
  | [], _ :: _, _, h => by simp [HS.decL] at h
  | _ :: _, [], _, h => by simp [HS.decL] at h
/-- A contract: the shapes of the arguments, of the blocks, what is asked and what comes of it. -/
def trH (as : List AS) (hs : List HS) (I : AS.TL as → HS.TL hs → (SV → List HB → Prop) → Prop) : Tr := trOf as (HS.decL hs) I
theorem trH_ok {P : Program} {f : FuncId} {as : List AS} {hs : List HS} {I : AS.TL as → HS.TL hs → (SV → List HB → Prop) → Prop}
    (h : ∀ x y Q, I x y Q → FSpec P f (AS.encL as x) (HS.encL hs y) Q) : ∀ args hh Q, trH as hs I args hh Q → FSpec P f args hh Q :=
  tr_ok (he := HS.encL hs) (HS.decL_ok hs) h
/-- One contract where the first argument is nil, another one where it isn't. -/
def orNil (t0 t : Tr) : Tr := fun args h Q => match args with
  | .c .nilp :: _ => t0 args h Q
  | _ => t args h Q
theorem orNil_ok {P : Program} {f : FuncId} {t0 t : Tr} (h0 : ∀ args h Q, t0 args h Q → FSpec P f args h Q) (h1 : ∀ args h Q, t args h Q → FSpec P f args h Q) : ∀ args h Q, orNil t0 t args h Q → FSpec P f args h Q := by
  intro args h Q hh
  unfold orNil at hh
  split at hh
  · exact h0 _ _ _ hh
  · exact h1 _ _ _ hh
def cloIn (f : FuncId) : List PV → Bool
  | [] => false
  | .clo g _ :: r => Nat.beq g f || cloIn f r
  | .c (.func g) :: r => Nat.beq g f || cloIn f r
  | _ :: r => cloIn f r
/-- One contract where the function f is handed over, another one where it isn't. -/
def orClo (f : FuncId) (t0 t : Tr) : Tr := fun args h Q => bif cloIn f args then t0 args h Q else t args h Q
theorem orClo_ok {P : Program} {g : FuncId} {f : FuncId} {t0 t : Tr} (h0 : ∀ args h Q, t0 args h Q → FSpec P g args h Q) (h1 : ∀ args h Q, t args h Q → FSpec P g args h Q) : ∀ args h Q, orClo f t0 t args h Q → FSpec P g args h Q := by
  intro args h Q hh
  unfold orClo at hh
  cases hc : cloIn f args with
  | true => rw [hc] at hh; exact h0 _ _ _ hh
  | false => rw [hc] at hh; exact h1 _ _ _ hh
/-- One contract where so many blocks are handed over, another one else. -/
def orLen (n : Nat) (t0 t : Tr) : Tr := fun args h Q => bif Nat.beq h.length n then t0 args h Q else t args h Q
theorem orLen_ok {P : Program} {g : FuncId} {n : Nat} {t0 t : Tr} (h0 : ∀ args h Q, t0 args h Q → FSpec P g args h Q) (h1 : ∀ args h Q, t args h Q → FSpec P g args h Q) : ∀ args h Q, orLen n t0 t args h Q → FSpec P g args h Q := by
  intro args h Q hh
  unfold orLen at hh
  cases hc : Nat.beq h.length n with
  | true => rw [hc] at hh; exact h0 _ _ _ hh
  | false => rw [hc] at hh; exact h1 _ _ _ hh
def failT : Tr := fun _ _ _ => False
theorem failT_ok {P : Program} {g : FuncId} : ∀ args h Q, failT args h Q → FSpec P g args h Q := fun _ _ _ h => h.elim

/-! ### loops that are run out -/
section
variable (P : Program) (Γ : Gam) (Λ : Lam)
def unr (c : Code) (k : Nat) : Nat → SS → (Exit → SS → Prop) → Prop
  | 0, _, _ => False
  | n + 1, s, Q => sx P Γ Λ c k s (thenQ (fun s' => unr c k n s' Q) Q)
end
theorem unr_ok {N : Nat} {P : Program} {Γ : Gam} {Λ : Lam} (hΓ : GOK P Γ) {c : Code} {k n : Nat} (hl : LOK N P Λ (loopsOf c k)) {s : SS} {Q : Exit → SS → Prop} (h : unr P Γ Λ c k n s Q) : W N P (.loop c) s Q := by
  intro π ρ a w S
  refine wp_loop_ghost (fun n a' w' => ∃ s' π' ρ', Sat π' ρ' s' a' w' ∧ Step N ρ s.hp w π ρ' s'.hp w' π' ∧ unr P Γ Λ c k n s' Q) n ⟨s, π, ρ, S, Step.refl _ _ _ _ _, h⟩ ?_
  rintro m a1 w1 ⟨s1, π1, ρ1, S1, St1, h1⟩
  cases m with
  | zero => exact h1.elim
  | succ m =>
    refine wp_mono (sx_ok (N := N) hΓ c k s1 _ hl h1 π1 ρ1 a1 w1 S1) ?_
    rintro e a2 w2 ⟨π2, ρ2, s2, S2, St2, hq⟩
    cases e with
    | normal => exact ⟨m, Nat.lt_succ_self m, s2, π2, ρ2, S2, St1.trans St2, hq⟩
    | exit id => exact ⟨π2, ρ2, s2, S2, St1.trans St2, hq⟩
    | goto l => exact ⟨π2, ρ2, s2, S2, St1.trans St2, hq⟩
    | ret => exact ⟨π2, ρ2, s2, S2, St1.trans St2, hq⟩
    | panic c => exact ⟨π2, ρ2, s2, S2, St1.trans St2, hq⟩
    | outgrown => exact ⟨π2, ρ2, s2, S2, St1.trans St2, hq⟩
theorem unr_all {N : Nat} {P : Program} {Γ : Gam} {Λ : Lam} (hΓ : GOK P Γ) {c : Code} {k n : Nat} (hl : LOK N P Λ (loopsOf c k)) : ∀ s Q, unr P Γ Λ c k n s Q → W N P (.loop c) s Q := fun _ _ h => unr_ok hΓ hl h
/-- A function's loops, by their place in the text. -/
noncomputable def lp (fn : Func) (i : Nat) : Code := match nth (loopL fn) i with | some p => p.2 | none => .skip
noncomputable def lpIn (c : Code) (k i : Nat) : Code := match nth (loopsOf c k) i with | some p => p.2 | none => .skip
theorem cond_of {c : Bool} {A B : Prop} (h1 : c = true → A) (h2 : c = false → B) : bif c then A else B := by cases c; exact h2 rfl; exact h1 rfl
theorem w64 {x : Int} (h1 : -9223372036854775808 ≤ x) (h2 : x ≤ 9223372036854775807) : IntKind.i64.wrap x = x := by rw [IntKind.wrap_i64]; omega
theorem w64n {n : Nat} (h : n ≤ 9223372036854775807) : IntKind.i64.wrap (n : Int) = (n : Int) := w64 (by omega) (by omega)
theorem w64u {x : Int} (h1 : 0 ≤ x) (h2 : x < 18446744073709551616) : IntKind.u64.wrap x = x := by rw [IntKind.wrap_u64]; omega
abbrev i64 (x : Int) : Prop := -9223372036854775808 ≤ x ∧ x ≤ 9223372036854775807
theorem wf_i64 {n : Int} (h : (Lit.int .i64 n).wf = true) : i64 n := by
  simpa [Lit.wf, IntKind.min, IntKind.max, IntKind.signed, IntKind.bits] using h
theorem getD_at {α : Type} {l : List α} {i : Nat} (h : i < l.length) (d : α) : l.getD i d = l[i] := by
  rw [List.getD_eq_getElem?_getD, List.getElem?_eq_getElem h]; rfl
/-- What a whole number leaves over, seen without a sign. -/
noncomputable def remU (x : Int) (n : Nat) : Nat := (IntKind.i64.wrap ((IntKind.u64.wrap x).tmod (IntKind.u64.wrap (n : Int)))).toNat
theorem remU_eq (x : Int) (n : Nat) (h0 : 0 < n) (h1 : n ≤ 1000000000) : IntKind.i64.wrap ((IntKind.u64.wrap x).tmod (IntKind.u64.wrap (n : Int))) = (remU x n : Int) ∧ remU x n < n := by
  unfold remU
  rw [w64u (x := (n : Int)) (by omega) (by omega)]
  have h2 : 0 ≤ IntKind.u64.wrap x := by rw [IntKind.wrap_u64]; omega
  have h3 : 0 ≤ (IntKind.u64.wrap x).tmod (n : Int) := Int.tmod_nonneg _ h2
  have h4 : (IntKind.u64.wrap x).tmod (n : Int) < (n : Int) := Int.tmod_lt_of_pos _ (by omega)
  rw [w64 (by omega) (by omega)]
  omega
theorem gok0 {P : Program} : GOK P (gam []) := gam_ok trivial
abbrev ti (n : Int) : PV := .c (.int .i64 n)
abbrev tb (b : Bool) : PV := .c (.bool b)
abbrev tI : Ty := .int .i64

/-! ### a nil slice, seen as a row of one's own without elements -/
/-- Cell i of block k, where it is nil, is a row of the block's own: in a state. -/
theorem W_ownH {N : Nat} {P : Program} {c : Code} {s : SS} {Q : Exit → SS → Prop} (e : TypeId) (t : Ty) (k i : Nat) (h : W N P c { s with hp := ownH t s.hp.length k i s.hp ++ [.row e t ([] : List t.T)] } Q) : W N P c s Q := by
  intro π ρ a w S
  have H0 := hsat_ownH S.hs t s.hp.length k i
  refine wp_mono (h π ρ a w ⟨hsat_nil H0 e t, S.fs, S.df, S.nt, S.on⟩) ?_
  rintro x a2 w2 ⟨π2, ρ2, s2, S2, St2, hq⟩
  exact ⟨π2, ρ2, s2, S2, (step_nil (step_ownH (Step.refl N ρ s.hp w π) t s.hp.length k i) H0 _).trans St2, hq⟩
def ownG (t : Ty) (n : Nat) : SV → SV | .p x => .p (ownP t n x) | s => s
theorem slot_ownG {π : Pers} {ρ : Env} {T : Array Value} {t : Ty} {n k : Nat} {v : SV} (h : SlotIs π ρ T k v) : SlotIs π ρ T k (ownG t n v) := by
  cases v with
  | p x => obtain ⟨u, h1, h2⟩ := h; exact ⟨u, h1, denp_ownP h2⟩
  | gd j b x => exact h
  | tup l => exact h
def ownF (t : Ty) (n i : Nat) : List (Nat × SV) → List (Nat × SV)
  | [] => []
  | (j, u) :: r => (j, bif Nat.beq j i then ownG t n u else u) :: ownF t n i r
theorem ownF_lk {t : Ty} {n i : Nat} : ∀ {fr : List (Nat × SV)} {k : Nat} {v : SV}, lk (ownF t n i fr) k = some v → ∃ u, lk fr k = some u ∧ (v = u ∨ v = ownG t n u)
  | [], k, v, h => by simp [ownF, lk] at h
  | (j, u) :: r, k, v, h => by
    simp only [ownF, lk] at h ⊢
    cases hj : Nat.beq j k with
    | true =>
      rw [hj] at h
      simp only [cond_true, Option.some.injEq] at h
      subst h
      refine ⟨u, rfl, ?_⟩
      cases Nat.beq j i with
      | true => exact .inr rfl
      | false => exact .inl rfl
    | false => rw [hj] at h; exact ownF_lk h
theorem ownF_none {t : Ty} {n i : Nat} : ∀ {fr : List (Nat × SV)} {k : Nat}, lk fr k = none → lk (ownF t n i fr) k = none
  | [], k, h => rfl
  | (j, u) :: r, k, h => by
    simp only [ownF, lk] at h ⊢
    cases hj : Nat.beq j k with
    | true => rw [hj] at h; cases h
    | false => rw [hj] at h; exact ownF_none h
theorem ownF_once {t : Ty} {n i : Nat} : ∀ {fr : List (Nat × SV)}, once fr = true → once (ownF t n i fr) = true
  | [], _ => rfl
  | (j, u) :: r, h => by
    simp only [once, ownF, Bool.and_eq_true] at h ⊢
    refine ⟨?_, ownF_once h.2⟩
    have h1 : lk r j = none := by cases hl : lk r j with | none => rfl | some x => rw [hl] at h; exact absurd h.1 (by simp)
    rw [ownF_none h1]
/-- Slot i, where it is nil, is a row of one's own: in a state. -/
theorem W_ownF {N : Nat} {P : Program} {c : Code} {s : SS} {Q : Exit → SS → Prop} (e : TypeId) (t : Ty) (i : Nat) (h : W N P c { s with fr := ownF t s.hp.length i s.fr, hp := s.hp ++ [.row e t ([] : List t.T)] } Q) : W N P c s Q := by
  intro π ρ a w S
  refine wp_mono (h π ρ a w ⟨hsat_nil S.hs e t, fun k v hk => ?_, S.df, S.nt, ownF_once S.on⟩) ?_
  · obtain ⟨u, h1, h2⟩ := ownF_lk hk
    have h3 := S.fs k u h1
    rcases h2 with rfl | rfl
    · exact h3
    · exact slot_ownG h3
  rintro x a2 w2 ⟨π2, ρ2, s2, S2, St2, hq⟩
  exact ⟨π2, ρ2, s2, S2, (step_nil (Step.refl N ρ s.hp w π) S.hs _).trans St2, hq⟩
def ownA (t : Ty) (n i : Nat) : SV → SV | .p (.agg l) => .p (.agg (ownAt (ownV t n) i l)) | s => s
/-- Cell i of the struct that is answered, where it is nil, is a row of the caller's own. -/
theorem spec_ownA {P : Program} {f : FuncId} {args : List PV} {h : List HB} {Q : SV → List HB → Prop} (e : TypeId) (t : Ty) (i : Nat) (hs : FSpec P f args h fun r h' => Q r h' ∨ Q (ownA t h'.length i r) (h' ++ [.row e t ([] : List t.T)])) : FSpec P f args h Q := by
  intro π ρ w vs hh ha
  refine (hs π ρ w vs hh ha).mono ?_
  rintro _ w' ⟨v, π', ρ', r, h', rfl, h2, h3, h4, h5⟩
  rcases h5 with h5 | h5
  · exact ⟨v, π', ρ', r, h', rfl, h2, h3, h4, h5⟩
  refine ⟨v, π', ρ', _, _, rfl, ?_, hsat_nil h3 e t, step_nil h4 h3 _, h5⟩
  cases r with
  | p x =>
    cases x with
    | c y => exact h2
    | agg l => obtain ⟨us, h6, h7⟩ := h2; exact ⟨us, h6, all2_ownAt (fun _ _ h => den_ownV h) i h7⟩
    | clo f l => exact h2
  | tup l => exact h2
  | gd j b x => exact h2.elim
/-- What is answered, if its slices are read alone from now on. -/
theorem spec_frz {P : Program} {f : FuncId} {args : List PV} {h : List HB} {Q : SV → List HB → Prop} (b0 : Nat) (bs0 : List Nat) (hs : FSpec P f args h fun r h' => noCells h' (b0 :: bs0) = true ∧ ∃ p ob bs' p', r = .p p ∧ brP ⟨0, [], h'⟩ p = some (ob, bs', p') ∧ allP ob ∧ (∀ x, x ∈ bs' → x ∈ b0 :: bs0) ∧ Q (.p (renP (keepN (b0 :: bs0)) p')) (goneB (b0 :: bs0) 0 h')) : FSpec P f args h Q := by
  intro π ρ w vs hh ha
  refine (hs π ρ w vs hh ha).mono ?_
  rintro _ w' ⟨v, π', ρ', r, h', rfl, h2, h3, h4, h5, p, ob, bs', p', rfl, h6, h7, h8, h9⟩
  have S : Sat π' ρ' ⟨0, [], h'⟩ (⟨#[], []⟩ : Act) w' := ⟨h3, fun i v hi => by simp [lk] at hi, rfl, rfl, rfl⟩
  obtain ⟨π2, ρ2, S2, St2, hp, _⟩ := sat_frz (N := h.length) S h5
  exact ⟨v, π2, ρ2, .p (renP (keepN (b0 :: bs0)) p'), _, rfl, hp _ _ (brP_ok S h2 h6 h7 h8), S2.hs, h4.trans St2, h9⟩
/-- What is answered, seen as data. -/
theorem spec_data {P : Program} {f : FuncId} {args : List PV} {h : List HB} {Q : SV → List HB → Prop} (t : Ty) (hs : FSpec P f args h fun r h' => ∃ l x, r = .p (.agg l) ∧ fromCV t l = some (x, []) ∧ Q (.p (.agg (toCV t x))) h') : FSpec P f args h Q := by
  intro π ρ w vs hh ha
  refine (hs π ρ w vs hh ha).mono ?_
  rintro _ w' ⟨v, π', ρ', r, h', rfl, h2, h3, h4, l, x, rfl, h6, h7⟩
  obtain ⟨us, rfl, h8⟩ := h2
  refine ⟨_, π', ρ', .p (.agg (toCV t x)), _, rfl, ⟨us, rfl, ?_⟩, h3, h4, h7⟩
  have := fromCV_le t l [] x π' ρ' us h6 h8
  simpa using this
/-- What is answered, seen as data: no block is left. -/
theorem spec_data0 {P : Program} {f : FuncId} {args : List PV} {Q : SV → List HB → Prop} (t : Ty) (hs : FSpec P f args [] fun r h' => ∃ l x, r = .p (.agg l) ∧ fromCV t l = some (x, []) ∧ Q (.p (.agg (toCV t x))) []) : FSpec P f args [] Q := by
  intro π ρ w vs hh ha
  refine (hs π ρ w vs hh ha).mono ?_
  rintro _ w' ⟨v, π', ρ', r, h', rfl, h2, h3, h4, l, x, rfl, h6, h7⟩
  obtain ⟨us, rfl, h8⟩ := h2
  obtain ⟨v1, v2, rfl, h9, h10⟩ := fromCV_ok t l us x [] h8 h6
  have e : v2 = [] := by cases v2 with | nil => rfl | cons _ _ => exact h10.elim
  subst e
  refine ⟨_, π', fun _ => none, .p (.agg (toCV t x)), [], rfl, ⟨_, rfl, ?_⟩, ⟨fun k it hk => by simp at hk, fun k hk => by simp at hk, fun k k' g hk => by simp at hk, fun k g hk => by simp at hk, h3.pers, fun _ _ => rfl⟩, ⟨h4.os, h4.tape, h4.output, h4.size, h4.block, fun k g hk => by simp at hk, h4.pmono, h4.pfresh, fun k it κ hk => by simp at hk⟩, h7⟩
  rw [List.append_nil]
  exact toCV_ok t x v1 h9
/-! ### rows that stay where they are -/
/-- What is answered by a call that was handed no block, seen otherwise. -/
theorem spec_conv {P : Program} {f : FuncId} {args : List PV} {Q : SV → List HB → Prop} (hs : FSpec P f args [] fun r h' => ∃ r2 h2, (∀ π ρ v, DenS π ρ r v → DenS π ρ r2 v) ∧ h2.length = h'.length ∧ (∀ k it2, h2[k]? = some it2 → ∃ it, h'[k]? = some it ∧ ∀ π ρ w, HBIs π ρ w k it → HBIs π ρ w k it2) ∧ Q r2 h2) : FSpec P f args [] Q := by
  intro π ρ w vs hh ha
  refine (hs π ρ w vs hh ha).mono ?_
  rintro _ w' ⟨v, π', ρ', r, h', rfl, h2, h3, h4, r2, hh2, h5, h6, h7, h8⟩
  refine ⟨v, π', ρ', r2, hh2, rfl, h5 _ _ _ h2, ⟨fun k it hk => ?_, fun k hk => h3.lt k (by omega), fun k k' g hk hk' => h3.inj k k' g (by omega) (by omega), fun k g hk => h3.apart k g (by omega), h3.pers, fun k hk => h3.out k (by omega)⟩, ⟨h4.os, h4.tape, h4.output, h4.size, h4.block, fun k g hk => h4.fresh k g (by omega), h4.pmono, h4.pfresh, fun k it κ hk => by simp at hk⟩, h8⟩
  obtain ⟨it0, h9, h10⟩ := h7 k it hk
  exact h10 _ _ _ (h3.items k it0 h9)
/-- A slice that is answered, with a row that stays where it is. -/
theorem spec_fix {P : Program} {f : FuncId} {args : List PV} {Q : SV → List HB → Prop} (e : TypeId) (t : Ty) (hs : FSpec P f args [] fun r h' => ∃ xs : List t.T, r = .p (.c (.view t 0 0 xs.length)) ∧ h' = [.row e t xs] ∧ Q (.p (.c (.view (.fix t) 0 0 xs.length))) [.row e (.fix t) xs]) : FSpec P f args [] Q := by
  refine spec_conv (hs.mono ?_)
  rintro r h' ⟨xs, rfl, rfl, hq⟩
  refine ⟨.p (.c (.view (.fix t) 0 0 xs.length)), [.row e (.fix t) xs], fun π ρ v h => h, rfl, fun k it hk => ?_, hq⟩
  cases k with
  | zero => simp only [List.getElem?_cons_zero, Option.some.injEq] at hk; subst hk; exact ⟨_, rfl, fun π ρ w h => h⟩
  | succ k => simp at hk
/-- A struct that is answered, with a slice the row of which may move again. -/
theorem spec_unfixA {P : Program} {f : FuncId} {args : List PV} {Q : SV → List HB → Prop} (e : TypeId) (t : Ty) (hs : FSpec P f args [] fun r h' => ∃ (c : Bool) (xs : List t.T), r = .p (.agg [.bool c, .view (.fix t) 0 0 xs.length]) ∧ h' = [.row e (.fix t) xs] ∧ Q (.p (.agg [.bool c, .view t 0 0 xs.length])) [.row e t xs]) : FSpec P f args [] Q := by
  refine spec_conv (hs.mono ?_)
  rintro r h' ⟨c, xs, rfl, rfl, hq⟩
  refine ⟨.p (.agg [.bool c, .view t 0 0 xs.length]), [.row e t xs], fun π ρ v ⟨us, h1, h2⟩ => ⟨us, h1, ?_⟩, rfl, fun k it hk => ?_, hq⟩
  · match us, h2 with
    | [x, y], h2 => exact ⟨h2.1, (show DenC π ρ (.view t 0 0 xs.length) y from h2.2.1), trivial⟩
  cases k with
  | zero => simp only [List.getElem?_cons_zero, Option.some.injEq] at hk; subst hk; exact ⟨_, rfl, fun π ρ w h => h⟩
  | succ k => simp at hk
def fxC (b : Nat) : CV → CV
  | .view t b' a n => bif Nat.beq b' b then .view (.fix t) b' a n else .view t b' a n
  | c => c
theorem den_fxC {π : Pers} {ρ : Env} (b : Nat) (c : CV) (v : Value) (h : DenC π ρ c v) : DenC π ρ (fxC b c) v := by
  cases c with
  | view t b' a n =>
    simp only [fxC]
    cases Nat.beq b' b with
    | true => exact h
    | false => exact h
  | _ => exact h
def fxH (b j : Nat) : HB → HB
  | .cells T cs => .cells T (cs.map (fxC b))
  | .row e t xs => bif Nat.beq j b then .row e (.fix t) xs else .row e t xs
  | it => it
def fxL (b : Nat) : Nat → List HB → List HB
  | _, [] => []
  | j, it :: r => fxH b j it :: fxL b (j + 1) r
theorem fxL_get {b : Nat} : ∀ {h : List HB} {j k : Nat} {it : HB}, (fxL b j h)[k]? = some it → ∃ x, h[k]? = some x ∧ it = fxH b (j + k) x
  | [], j, k, it, h => by simp [fxL] at h
  | x :: r, j, 0, it, h => by simp only [fxL, List.getElem?_cons_zero, Option.some.injEq] at h; exact ⟨x, rfl, h.symm⟩
  | x :: r, j, k + 1, it, h => by
    simp only [fxL, List.getElem?_cons_succ] at h ⊢
    obtain ⟨y, h1, h2⟩ := fxL_get h
    exact ⟨y, h1, by rw [h2, show j + 1 + k = j + (k + 1) by omega]⟩
theorem fxL_len {b : Nat} : ∀ {h : List HB} {j : Nat}, (fxL b j h).length = h.length
  | [], _ => rfl
  | _ :: r, j => by simp only [fxL, List.length_cons, fxL_len (h := r)]
theorem fxL_get' {b : Nat} : ∀ {h : List HB} {j k : Nat} {x : HB}, h[k]? = some x → (fxL b j h)[k]? = some (fxH b (j + k) x)
  | [], j, k, x, h => by simp at h
  | y :: r, j, 0, x, h => by simp only [List.getElem?_cons_zero, Option.some.injEq] at h; subst h; rfl
  | y :: r, j, k + 1, x, h => by
    simp only [fxL, List.getElem?_cons_succ] at h ⊢
    rw [fxL_get' h, show j + 1 + k = j + (k + 1) by omega]
theorem hb_fxH {π : Pers} {ρ : Env} {w : World} {k b j : Nat} {it : HB} (h : HBIs π ρ w k it) : HBIs π ρ w k (fxH b j it) := by
  cases it with
  | cells T cs =>
    obtain ⟨g, vs, h1, h2, h3⟩ := h
    refine ⟨g, vs, by rw [List.length_map]; exact h1, h2, ?_⟩
    exact all2_map (fun c v hc => den_fxC b c v hc) h3
  | row e t xs =>
    simp only [fxH]
    cases Nat.beq j b with
    | true => exact h
    | false => exact h
  | _ => exact h
/-- The row of the block b stays where it is from now on. -/
theorem W_fix {N : Nat} {P : Program} {c : Code} {s : SS} {Q : Exit → SS → Prop} (b : Nat) (hN : N ≤ b) (h : W N P c { s with hp := fxL b 0 s.hp } Q) : W N P c s Q := by
  intro π ρ a w S
  have hl : (fxL b 0 s.hp).length = s.hp.length := fxL_len
  have H : HSat π ρ (fxL b 0 s.hp) w := by
    refine ⟨fun k it hk => ?_, fun k hk => S.hs.lt k (by omega), fun k k' g hk hk' => S.hs.inj k k' g (by omega) (by omega), fun k g hk => S.hs.apart k g (by omega), S.hs.pers, fun k hk => S.hs.out k (by omega)⟩
    obtain ⟨x, hx, rfl⟩ := fxL_get hk
    exact hb_fxH (S.hs.items k x hx)
  have St : Step N ρ s.hp w π ρ (fxL b 0 s.hp) w π := by
    refine ⟨rfl, rfl, rfl, Nat.le_refl _, fun _ _ _ => rfl, fun k g hk hr => .inl ⟨k, by omega, hr⟩, fun _ _ h => h, fun _ _ h => .inl h, fun k it κ hk hit hκ => ⟨rfl, _, fxL_get' hit, ?_⟩⟩
    cases it with
    | cells T cs => exact hκ
    | row e t xs =>
      simp only [fxH]
      have : Nat.beq (0 + k) b = false := by
        cases hb : Nat.beq (0 + k) b with
        | false => rfl
        | true => have := beq_eq hb; omega
      rw [this]; exact hκ
    | map ka kt va vt es => exact hκ
    | nest e bx fs xs hole => exact hκ
    | gone => exact hκ
  refine wp_mono (h π ρ a w ⟨H, S.fs, S.df, S.nt, S.on⟩) ?_
  rintro x a2 w2 ⟨π2, ρ2, s2, S2, St2, hq⟩
  exact ⟨π2, ρ2, s2, S2, St.trans St2, hq⟩
/-- What is answered beside a number: a slice with a row that stays where it is, if it is read alone from now on. -/
theorem spec_frzT {P : Program} {f : FuncId} {args : List PV} {h : List HB} {Q : SV → List HB → Prop} (b : Nat) (hb : h.length ≤ b) (e : TypeId) (t : Ty) (ht : isFix t = false)
    (hs : FSpec P f args h fun r h' => Q r h' ∨ ∃ (xs : List t.T) (k : IntKind) (n : Int), r = .tup [.c (.view (.fix t) b 0 xs.length), .c (.int k n)] ∧ h'[b]? = some (.row e (.fix t) xs) ∧ Q (.tup [.c (.row t xs), .c (.int k n)]) (goneB [b] 0 (h'.set b (.row e t xs)))) : FSpec P f args h Q := by
  intro π ρ w vs hh ha
  refine (hs π ρ w vs hh ha).mono ?_
  rintro _ w' ⟨v, π', ρ', r, h', rfl, h2, h3, h4, h5⟩
  rcases h5 with h5 | ⟨xs, k, n, rfl, h6, h7⟩
  · exact ⟨v, π', ρ', r, h', rfl, h2, h3, h4, h5⟩
  have hbl := (List.getElem?_eq_some_iff.1 h6).1
  have hget : (h'.set b (.row e t xs))[b]? = some (.row e t xs) := by simp [hbl]
  have H : HSat π' ρ' (h'.set b (.row e t xs)) w' := by
    refine ⟨fun j it hj => ?_, fun j hj => h3.lt j (by simpa using hj), fun j j' g hj hj' => h3.inj j j' g (by simpa using hj) (by simpa using hj'), fun j g hj => h3.apart j g (by simpa using hj), h3.pers, fun j hj => h3.out j (by simpa using hj)⟩
    by_cases hjb : j = b
    · subst hjb
      rw [hget] at hj
      cases hj
      exact h3.items j (.row e (.fix t) xs) h6
    · rw [List.getElem?_set_ne (fun e => hjb e.symm)] at hj
      exact h3.items j it hj
  have St : Step h.length ρ h w π ρ' (h'.set b (.row e t xs)) w' π' := by
    refine ⟨h4.os, h4.tape, h4.output, h4.size, h4.block, fun j g hj => h4.fresh j g (by simpa using hj), h4.pmono, h4.pfresh, fun j it κ hj hit hκ => ?_⟩
    obtain ⟨e1, it', e2, e3⟩ := h4.keep j it κ hj hit hκ
    exact ⟨e1, it', by rw [List.getElem?_set_ne (by omega)]; exact e2, e3⟩
  have S : Sat π' ρ' ⟨0, [], h'.set b (.row e t xs)⟩ (⟨#[], []⟩ : Act) w' := ⟨H, fun i v hi => by simp [lk] at hi, rfl, rfl, rfl⟩
  have hnc : noCells (h'.set b (.row e t xs)) [b] = true := by
    simp only [noCells, Bool.and_true]
    rw [nth_eq, hget]
    cases t <;> first | rfl | cases ht
  obtain ⟨π2, ρ2, S2, St2, hp, hc⟩ := sat_frz (N := h.length) S (bs := [b]) hnc
  obtain ⟨us, rfl, h8⟩ := h2
  match us, h8 with
  | [x, y], h8 =>
    have hbr : brP ⟨0, [], h'.set b (.row e t xs)⟩ (.c (.view t b 0 xs.length)) = some ([0 + xs.length ≤ xs.length], [b], .c (.row t (vw xs 0 xs.length))) := by
      simp only [brP, brC]
      rw [nth_eq, hget]
      simp
    have hx : DenP π2 ρ2 (.c (.row t (vw xs 0 xs.length))) x := hp _ _ (brP_ok S (bs := [b]) (show DenP π' ρ' (.c (.view t b 0 xs.length)) x from h8.1) hbr ⟨by omega, trivial⟩ (fun z hz => hz))
    have hy : DenP π2 ρ2 (.c (.int k n)) y := hc (.int k n) y h8.2.1
    have ev : vw xs 0 xs.length = xs := by simp [vw]
    rw [ev] at hx
    exact ⟨_, π2, ρ2, .tup [.c (.row t xs), .c (.int k n)], _, rfl, ⟨[x, y], rfl, hx, hy, trivial⟩, S2.hs, St.trans St2, h7⟩
end Go.Proofs.Ytloiimhmmcheoaa.Sx
