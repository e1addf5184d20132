/- A machine of abstract states over the model, part O: code, loops, functions. No condition. -/
import Derived.Test.YtkpepieepdmjpaaSxMp
import Derived.Deep.LoopGhost
import Derived.Still
import Derived.StillTail
namespace Go.Proofs.Ytkpepieepdmjpaa.Sx
open Go
set_option linter.unusedVariables false
set_option linter.unusedSimpArgs false

/-- From the state s on the code c runs, and comes to an end e in a state of which Q holds. -/
def W (N : Nat) (P : Program) (c : Code) (s : SS) (Q : Exit → SS → Prop) : Prop :=
  ∀ π ρ a w, Sat π ρ s a w → c.wp P (fun e a' w' => ∃ π' ρ' s', Sat π' ρ' s' a' w' ∧ Step N ρ s.hp w π ρ' s'.hp w' π' ∧ Q e s') a w
theorem W.mono {N : Nat} {P : Program} {c : Code} {s : SS} {Q Q' : Exit → SS → Prop} (h : W N P c s Q) (hq : ∀ e s', Q e s' → Q' e s') : W N P c s Q' :=
  fun π ρ a w S => wp_mono (h π ρ a w S) fun e a' w' ⟨π', ρ', s', h1, h2, h3⟩ => ⟨π', ρ', s', h1, h2, hq _ _ h3⟩

abbrev Gam := FuncId → Option (List Bool × Tr)
abbrev Lam := Nat → SS → (Exit → SS → Prop) → Prop
def evArgs (s : SS) : List Operand → Option (List PV)
  | [] => some []
  | x :: r => match evL s [] x, evArgs s r with
    | some p, some ps => some (p :: ps)
    | _, _ => none
theorem evArgs_ok {π : Pers} {ρ : Env} {s : SS} {a : Act} {w : World} (S : Sat π ρ s a w) : ∀ (l : List Operand) (ps : List PV), evArgs s l = some ps → All2 (DenP π ρ) ps (l.map a.eval)
  | [], ps, h => by simp only [evArgs, Option.some.injEq] at h; subst h; trivial
  | x :: r, ps, h => by
    simp only [evArgs] at h
    split at h
    · rename_i p ps' hp hps
      cases h
      exact ⟨evL_ok S (gh_nil _) hp, evArgs_ok S r ps' hps⟩
    · cases h
/-- '== nil', '!= nil' of a slice of which it isn't known. -/
def eqK (op : BinOp) (p : Prop) (K : Bool → Prop) : Prop :=
  match op with
  | .eql => ∀ b : Bool, (b = true → p) → K b
  | .neq => ∀ b : Bool, (b = true → p) → K (!b)
  | _ => False
def nilEq (P : Program) (s : SS) (op : BinOp) (t : TypeId) (x y : Option PV) (dst : Option Nat) (K : SS → Prop) : Prop :=
  match x, y with
  | some (.c (.row _ xs)), some (.c .nils) => bif isSl P t then eqK op (xs = []) (fun b => putK s dst (.p (.c (.bool b))) K) else False
  | some (.c (.view _ _ _ n)), some (.c .nils) => bif isSl P t then eqK op (n = 0) (fun b => putK s dst (.p (.c (.bool b))) K) else False
  | _, _ => False
theorem nilEq_ok {N : Nat} {P : Program} {π : Pers} {ρ : Env} {s : SS} {a : Act} {w : World} (S : Sat π ρ s a w) {op : BinOp} {t : TypeId} {x y : Option PV} {vx vy : Value} (hx : ∀ p, x = some p → DenP π ρ p vx) (hy : ∀ p, y = some p → DenP π ρ p vy) (ox oy : Operand) {dst : Option Nat} {K : SS → Prop} (h : nilEq P s op t x y dst K) :
    ∃ u, (do eqGuard op t ox oy vx vy; binOp op t vx vy : Sem Value).run P w = .ok u w ∧ Out N P π ρ s w K (a.put dst u) w := by
  have key : ∀ (A : Option Addr) (n c : Nat) (p : Prop), vx = .slice A n c → vy = .slice none 0 0 → (A.isNone = true → p) → isSl P t = true → eqK op p (fun b => putK s dst (.p (.c (.bool b))) K) →
      ∃ u, (do eqGuard op t ox oy vx vy; binOp op t vx vy : Sem Value).run P w = .ok u w ∧ Out N P π ρ s w K (a.put dst u) w := by
    intro A n c p h1 h2 h3 h4 h5
    subst h1 h2
    have hr : (Op.equal t (.slice A n c) (.slice none 0 0)).run P w = .ok A.isNone w := by
      simp only [isSl] at h4
      split at h4
      · rename_i e hu
        have : ∀ d, (Op.equalIn (d + 1) t (.slice A n c) (.slice none 0 0)).run P w = .ok A.isNone w := by
          intro d
          cases A <;> simp [Op.equalIn, run_underlying hu]
        exact this 9999
      · cases h4
    have hg : (eqGuard op t ox oy (.slice A n c) (.slice none 0 0)).run P w = .ok () w := run_eqGuard_c op t ox oy _ _ w (by simp) (by simp)
    unfold eqK at h5
    split at h5
    · obtain ⟨s', g1, g2, g3⟩ := putK_ok (x := .c (.bool A.isNone)) (u := .bool A.isNone) S rfl (h5 A.isNone h3)
      refine ⟨.bool A.isNone, ?_, π, ρ, s', g1, by rw [g3]; exact Step.refl _ _ _ _ _, g2⟩
      simp only [Sem.run_bind, hg, Result.andThen_ok, binOp, hr, Sem.run_pure]
    · obtain ⟨s', g1, g2, g3⟩ := putK_ok (x := .c (.bool (!A.isNone))) (u := .bool (!A.isNone)) S rfl (h5 A.isNone h3)
      refine ⟨.bool (!A.isNone), ?_, π, ρ, s', g1, by rw [g3]; exact Step.refl _ _ _ _ _, g2⟩
      simp only [Sem.run_bind, hg, Result.andThen_ok, binOp, hr, Sem.run_pure]
    · exact h5.elim
  unfold nilEq at h
  split at h
  · rename_i ty xs
    cases hb : isSl P t with
    | false => rw [hb] at h; exact h.elim
    | true =>
      rw [hb] at h
      obtain ⟨A, c, hv, _, _, h3⟩ := hx _ rfl
      have hvy := hy _ rfl
      simp only [DenP, DenC] at hvy
      refine key A xs.length c (xs = []) hv hvy (fun hA => ?_) hb h
      rcases h3 with h3 | ⟨g, o, vs, rfl, _⟩
      · exact h3
      · cases hA
  · rename_i ty b i n
    cases hb : isSl P t with
    | false => rw [hb] at h; exact h.elim
    | true =>
      rw [hb] at h
      have hvy := hy _ rfl
      simp only [DenP, DenC] at hvy
      rcases hx _ rfl with ⟨h0, A, hv⟩ | ⟨g, o, m, c, _, _, _, _, hv⟩
      · exact key A 0 0 (n = 0) hv hvy (fun _ => h0) hb h
      · exact key _ n c (n = 0) hv hvy (fun hA => by cases hA) hb h
  · exact h.elim
/-- A store; into a row of data: what was a slice of the call's own is a row that nobody writes any more. -/
def stoP (P : Program) (s : SS) (t : TypeId) (ad v : Option PV) (K : SS → Prop) : Prop :=
  match ad, v with
  | some (.c (.rptr ty b i j)), some p => match nth s.hp b with
    | some (.row _ _ _) => match brP s p with
      | some (ob, bs, p') => bif noCells s.hp bs then obl ob (storeP P (frzS bs s) t (some (renP (keepN bs) (.c (.rptr ty b i j)))) (some (renP (keepN bs) p')) K) else False
      | none => False
    | _ => storeP P s t ad v K
  | some (.c (.ptr b i)), some (.agg cs) => match brP s (.agg cs) with
    | some (ob, bs, p') => bif flatAt s.hp bs then storeP P s t ad v K else bif noCells s.hp bs then obl ob (storeP P (frzS bs s) t (some (renP (keepN bs) (.c (.ptr b i)))) (some (renP (keepN bs) p')) K) else storeP P s t ad v K
    | none => storeP P s t ad v K
  | _, _ => storeP P s t ad v K
theorem stoP_ok {N : Nat} {P : Program} {π : Pers} {ρ : Env} {s : SS} {a : Act} {w : World} (S : Sat π ρ s a w) {t : TypeId} {ad v : Option PV} {va vv : Value} (ha : ∀ p, ad = some p → DenP π ρ p va) (hv : ∀ p, v = some p → DenP π ρ p vv) {K : SS → Prop} (h : stoP P s t ad v K) :
    ∃ w', (Instr.storeAt t va vv).run P w = .ok () w' ∧ Out N P π ρ s w K a w' := by
  unfold stoP at h
  split at h
  · rename_i ty b i j p
    split at h
    · split at h
      · rename_i ob bs p' hbr
        cases hq : noCells s.hp bs with
        | false => rw [hq] at h; exact h.elim
        | true =>
          rw [hq] at h
          obtain ⟨ho, hK⟩ := obl_out h
          obtain ⟨π', ρ', S', St, hp', hc'⟩ := sat_frz (N := N) S hq
          have hd := hp' _ _ (brP_ok S (hv p rfl) hbr ho (fun x hx => hx))
          have had : DenP π' ρ' (renP (keepN bs) (.c (.rptr ty b i j))) va := hc' _ _ (show DenC π ρ (.rptr ty b i j) va from ha _ rfl)
          obtain ⟨w', h1, π2, ρ2, s2, h2, h3, h4⟩ := storeP_ok (N := N) S' (va := va) (vv := vv) (fun q hq => by cases hq; exact had) (fun q hq => by cases hq; exact hd) hK
          exact ⟨w', h1, π2, ρ2, s2, h2, St.trans h3, h4⟩
      · exact h.elim
    · exact storeP_ok S ha hv h
  · rename_i b i cs
    split at h
    · rename_i ob bs p' hbr
      cases hfl : flatAt s.hp bs with
      | true => rw [hfl] at h; exact storeP_ok S ha hv h
      | false =>
        rw [hfl] at h
        simp only [cond_false] at h
        cases hq : noCells s.hp bs with
        | false => rw [hq] at h; exact storeP_ok S ha hv h
        | true =>
          rw [hq] at h
          obtain ⟨ho, hK⟩ := obl_out h
          obtain ⟨π', ρ', S', St, hp', hc'⟩ := sat_frz (N := N) S hq
          have hd := hp' _ _ (brP_ok S (hv _ rfl) hbr ho (fun x hx => hx))
          have had : DenP π' ρ' (renP (keepN bs) (.c (.ptr b i))) va := hc' _ _ (show DenC π ρ (.ptr b i) va from ha _ rfl)
          obtain ⟨w', h1, π2, ρ2, s2, h2, h3, h4⟩ := storeP_ok (N := N) S' (va := va) (vv := vv) (fun q hq => by cases hq; exact had) (fun q hq => by cases hq; exact hd) hK
          exact ⟨w', h1, π2, ρ2, s2, h2, St.trans h3, h4⟩
    · exact storeP_ok S ha hv h
  · exact storeP_ok S ha hv h
def buiP (P : Program) (s : SS) (t : TypeId) (len : Nat) (ps : Option (List (Nat × PV))) (dst : Option Nat) (K : SS → Prop) : Prop :=
  match ps with
  | some ps => match brPs s ps with
    | some (ob, bs, ps') => bif noCells s.hp bs then obl ob (buildSlP P (frzS bs s) t len (some (renPs (keepN bs) ps')) dst K) else False
    | none => False
  | none => False
theorem buiP_ok {N : Nat} {P : Program} {π : Pers} {ρ : Env} {s : SS} {a : Act} {w : World} (S : Sat π ρ s a w) {t : TypeId} {len : Nat} {ps : Option (List (Nat × PV))} {parts : Array (Nat × Value)} (hp : ∀ l, ps = some l → All2 (fun p u => p.1 = u.1 ∧ DenP π ρ p.2 u.2) l parts.toList) {dst : Option Nat} {K : SS → Prop} (h : buiP P s t len ps dst K) :
    ∃ u w', (Instr.buildSlice t len parts).run P w = .ok u w' ∧ Out N P π ρ s w K (a.put dst u) w' := by
  unfold buiP at h
  split at h
  · rename_i l
    split at h
    · rename_i ob bs ps' hbr
      cases hq : noCells s.hp bs with
      | false => rw [hq] at h; exact h.elim
      | true =>
        rw [hq] at h
        obtain ⟨ho, hK⟩ := obl_out h
        obtain ⟨π', ρ', S', St, hp', hc'⟩ := sat_frz (N := N) S hq
        have hd := brPs_ok S (hp l rfl) hbr ho (fun x hx => hx)
        have hd' : All2 (fun p u => p.1 = u.1 ∧ DenP π' ρ' p.2 u.2) (renPs (keepN bs) ps') parts.toList := all2_map (fun p u h => ⟨h.1, hp' _ _ h.2⟩) hd
        obtain ⟨u, w', h1, π2, ρ2, s2, h2, h3, h4⟩ := buildSlP_ok (N := N) (a := a) S' (parts := parts) (fun l hl => by cases hl; exact hd') hK
        exact ⟨u, w', h1, π2, ρ2, s2, h2, St.trans h3, h4⟩
    · exact h.elim
  · exact h.elim
def lookP (P : Program) (s : SS) (T : TypeId) (m k : Option PV) (ok : Bool) (dst : Option Nat) (K : SS → Prop) : Prop :=
  match m, k with
  | some m, some k => match lookupV P s T m k with
    | some (r, is, _) => match ok with
      | true => putK s dst (.tup [r, .c (.bool is)]) K
      | false => putK s dst (.p r) K
    | none => False
  | _, _ => False
theorem lookP_ok {N : Nat} {P : Program} {π : Pers} {ρ : Env} {s : SS} {a : Act} {w : World} (S : Sat π ρ s a w) {T : TypeId} {m k : Option PV} {vm vk : Value} (hm : ∀ p, m = some p → DenP π ρ p vm) (hk : ∀ p, k = some p → DenP π ρ p vk) {ok : Bool} {dst : Option Nat} {K : SS → Prop} (h : lookP P s T m k ok dst K) :
    ∃ u, (Instr.lookup T vm vk ok).run P w = .ok u w ∧ Out N P π ρ s w K (a.put dst u) w := by
  unfold lookP at h
  split at h
  · rename_i pm pk
    split at h
    · rename_i r is j hl
      obtain ⟨v, hd, hr⟩ := lookupV_ok S (hm _ rfl) (hk _ rfl) hl
      obtain ⟨h1, h2⟩ := hr w (Alike.refl _ _ _ _)
      cases ok with
      | true =>
        obtain ⟨s', g1, g2, g3⟩ := putK_tup (u := .tuple #[v, .bool is]) (x := [r, .c (.bool is)]) S ⟨[v, .bool is], rfl, hd, rfl, trivial⟩ h
        exact ⟨_, h2, π, ρ, s', g1, by rw [g3]; exact Step.refl _ _ _ _ _, g2⟩
      | false =>
        obtain ⟨s', g1, g2, g3⟩ := putK_ok S hd h
        exact ⟨_, h1, π, ρ, s', g1, by rw [g3]; exact Step.refl _ _ _ _ _, g2⟩
    · exact h.elim
  · exact h.elim
/-- What a call calls: a function, and what is handed over behind the arguments. -/
def calleeOf : Option PV → Option (FuncId × List CV)
  | some (.c (.func f)) => some (f, [])
  | some (.clo f cs) => some (f, cs)
  | _ => none
theorem calleeOf_ok {π : Pers} {ρ : Env} {p : Option PV} {v : Value} (hp : ∀ q, p = some q → DenP π ρ q v) {f : FuncId} {cs : List CV} (h : calleeOf p = some (f, cs)) : ∃ vs : List Value, v = .func (.func f) #[] vs.toArray ∧ All2 (DenP π ρ) (cs.map .c) vs := by
  unfold calleeOf at h
  split at h
  · cases h; exact ⟨[], hp _ rfl, trivial⟩
  · cases h
    obtain ⟨vs, h1, h2⟩ := hp _ rfl
    exact ⟨vs, h1, all2_map (R' := DenP π ρ) (f := PV.c) (fun _ _ h => h) h2⟩
  · cases h
/-! ### a text's bytes, as a row that nobody writes -/
def s2bP (P : Program) (s : SS) (src dst : TypeId) (x : Option PV) (d : Option Nat) (K : SS → Prop) : Prop :=
  match x with
  | some (.c (.str t)) => bif isSt P src && isBt P dst then putK s d (.p (.c (.row (.int .u8) (bytesOf t)))) K else False
  | _ => False
def perE (π : Pers) (g : Nat) (vs : Array Value) : Pers := fun k => if k = g then some vs else π k
theorem seg_one {l : List Value} {i : Nat} {v : Value} (h : l[i]? = some v) : seg l i 1 = [v] := by
  obtain ⟨hi, rfl⟩ := List.getElem?_eq_some_iff.1 h
  unfold seg
  rw [List.drop_eq_getElem_cons hi]
  rfl
theorem s2bP_ok {N : Nat} {P : Program} {π : Pers} {ρ : Env} {s : SS} {a : Act} {w : World} (S : Sat π ρ s a w) {src dst : TypeId} {x : Option PV} {v : Value} (hv : ∀ p, x = some p → DenP π ρ p v) {d : Option Nat} {K : SS → Prop} (h : s2bP P s src dst x d K) :
    ∃ u w', (convert src dst v).run P w = .ok u w' ∧ Out N P π ρ s w K (a.put d u) w' := by
  unfold s2bP at h
  split at h
  · rename_i t
    cases hb : (isSt P src && isBt P dst) with
    | false => rw [hb] at h; exact h.elim
    | true =>
      rw [hb] at h
      simp only [Bool.and_eq_true] at hb
      obtain ⟨rfl, hsz⟩ := hv _ rfl
      obtain ⟨e, k1, k2⟩ := isBt_ok hb.2
      have hrun := run_bytes_of_string w src dst e t (isSt_ok hb.1) k1 k2
      have hge := grownCap_ge w t.size 0 e
      have hle := grownCap_le_maxLen w t.size 0 e (by simp only [maxI, maxLen] at hsz ⊢; omega)
      generalize grownCap w t.size 0 e = cap at hrun hge hle
      generalize hrow : bytesRow t cap = row at hrun
      have hmono : ∀ g vs, π g = some vs → perE π w.heap.size row g = some vs := fun g vs hg => by
        unfold perE
        rw [if_neg (fun e => by
          obtain ⟨e', f, he⟩ := S.hs.pers.1 g vs hg
          have := (Array.getElem?_eq_some_iff.1 he).1
          omega)]
        exact hg
      have hold : ∀ g, g < w.heap.size → (w.drew.alloc (.cells row e (row.size, row.size + 1))).heap[g]? = w.heap[g]? := fun g hg => heap_alloc_old w.drew _ g hg
      have hnew : (w.drew.alloc (.cells row e (row.size, row.size + 1))).heap[w.heap.size]? = some (.cells row e (row.size, row.size + 1)) := by
        show (w.heap.push _)[w.heap.size]? = _
        simp
      have hsize : (w.drew.alloc (.cells row e (row.size, row.size + 1))).heap.size = w.heap.size + 1 := by
        show (w.heap.push _).size = _
        simp
      have hlt : ∀ k g, k < s.hp.length → own (ρ k) g → g < w.heap.size := fun k g hk hr => S.hs.lt k hk g hr
      have S' : Sat (perE π w.heap.size row) ρ s a (w.drew.alloc (.cells row e (row.size, row.size + 1))) := by
        refine ⟨⟨fun k it hk => ?_, fun k hk g hr => by rw [hsize]; have := hlt k g hk hr; omega, S.hs.inj, fun k g hk hr => ?_, ⟨fun g vs hg => ?_, gok_mono hmono S.hs.pers.2⟩, S.hs.out⟩, fun i u hi => slot_up hmono (fun _ _ h => h) u (S.fs i u hi), S.df, S.nt, S.on⟩
        · exact hb_keep hmono (fun _ _ h => h) rfl (fun g hr => hold g (hlt k g (List.getElem?_eq_some_iff.1 hk).1 hr)) it (S.hs.items k it hk)
        · unfold perE
          rw [if_neg (by have := hlt k g hk hr; omega)]
          exact S.hs.apart k g hk hr
        · unfold perE at hg
          split at hg
          · rename_i e'; subst e'; cases hg; exact ⟨_, _, hnew⟩
          · obtain ⟨e', f, he⟩ := S.hs.pers.1 g vs hg
            exact ⟨e', f, by rw [hold g (Array.getElem?_eq_some_iff.1 he).1]; exact he⟩
      have St : Step N ρ s.hp w π ρ s.hp (w.drew.alloc (.cells row e (row.size, row.size + 1))) (perE π w.heap.size row) := by
        refine ⟨rfl, rfl, rfl, by rw [hsize]; omega, fun g hg _ => hold g hg, fun k g hk hr => .inl ⟨k, hk, hr⟩, hmono, fun g vs hg => ?_, fun k it κ _ hk hκ => ⟨rfl, it, hk, hκ⟩⟩
        unfold perE at hg
        split at hg
        · rename_i e'; subst e'; exact .inr (.inr (Nat.le_refl _))
        · exact .inl hg
      have hd : DenP (perE π w.heap.size row) ρ (.c (.row (.int .u8) (bytesOf t))) (.slice (some ⟨w.heap.size, 0, none⟩) t.size cap) := by
        refine ⟨some ⟨w.heap.size, 0, none⟩, cap, by rw [bytesOf_len], by rw [bytesOf_len]; exact hge, hle, .inr ⟨w.heap.size, 0, row, rfl, by unfold perE; rw [if_pos rfl], fun i x hi => ?_⟩⟩
        show seg row.toList (0 + i * 1) 1 = [.int .u8 x]
        refine seg_one ?_
        unfold bytesOf at hi
        rw [List.getElem?_map, Option.map_eq_some_iff] at hi
        obtain ⟨b, hb, rfl⟩ := hi
        have hib := (List.getElem?_eq_some_iff.1 hb).1
        rw [← hrow]
        unfold bytesRow
        rw [Array.toList_append, Array.toList_map, List.getElem?_append_left (by rw [List.length_map]; omega), List.getElem?_map, show 0 + i * 1 = i by omega, hb]
        rfl
      obtain ⟨s', g1, g2, g3⟩ := putK_ok S' hd h
      exact ⟨_, _, hrun, perE π w.heap.size row, ρ, s', g1, by rw [g3]; exact St, g2⟩
  · exact h.elim
section
variable (P : Program) (Γ : Gam) (Λ : Lam)
def impOp (o : Oper) (s : SS) (K : SS → Prop) : Prop :=
  match o.op with
  | .move x => match x with
    | .tmp t => match lk s.fr t with
      | some (.tup l) => putK s o.dst (.tup l) K
      | _ => False
    | _ => False
  | .alloc t => allocP P s t o.dst K
  | .box t x => boxP s t (evL s [] x) o.dst K
  | .store t ad v => match o.dst with
    | none => stoP P s t (evL s [] ad) (evL s [] v) K
    | some _ => False
  | .lookup t m k ok => lookP P s t (evL s [] m) (evL s [] k) ok o.dst K
  | .mapUpdate t m k v => match o.dst with
    | none => mapUpV P s t (evL s [] m) (evL s [] k) (evL s [] v) K
    | some _ => False
  | .makeMap t none => makeMapP P s t o.dst K
  | .makeSlice t l c => makeP P s t (evL s [] l) (evL s [] c) o.dst K
  | .convert src dst x => s2bP P s src dst (evL s [] x) o.dst K
  | .buildSlice t len parts => buiP P s t len (evParts s [] parts.toList) o.dst K
  | .build t parts => match buildP P t (evParts s [] parts.toList) with
    | some p => putK s o.dst (.p p) K
    | none => False
  | .binOp op t x y _ => nilEq P s op t (evL s [] x) (evL s [] y) o.dst K
  | .call c => match c.callee, c.args.toList, c.argTypes.toList with
    | .builtin .append, [d, x], [t1, t2] => appP P s t1 t2 (evL s [] d) (evL s [] x) o.dst K
    | .builtin .copy, [d, x], [t1, t2] => copyP P s t1 t2 (evL s [] d) (evL s [] x) o.dst K
    | .value x, args, _ => match calleeOf (evL s [] x) with
      | some (f, cs) => match P.funcs[f]?, evArgs s args with
        | some fn, some ps => bif fn.body.isSome && !(fn.name == "runtime.NumGoroutine") then (match Γ f with
          | some (own, tr) => callF s own tr (ps ++ cs.map .c) o.dst K
          | none => False) else (match cs with
          | [] => extnP s fn ps o.dst K
          | _ => False)
        | _, _ => False
      | none => False
    | _, _, _ => False
  | _ => False
def sxOne (o : Oper) (s : SS) (K : SS → Prop) : Prop :=
  match pureOp P s [] o with
  | some (ob, fc, r) => obl ob (fct fc (putK s o.dst (.p r) K))
  | none => impOp P Γ o s K
def kn (j : Nat) (want : Bool) : List (Nat × SV) → List (Nat × SV)
  | [] => []
  | (i, v) :: r => (i, bif Nat.beq i j then .p (.c (.bool want)) else match v with
      | .gd j' b x => bif Nat.beq j' j then (bif b == want then .p x else v) else v
      | v => v) :: kn j want r
def know (s : SS) (j : Nat) (want : Bool) : SS := { s with fr := kn j want s.fr }
/-- What is known where the slot j is as is wanted: of what guards it, too. -/
def gcondF : Nat → List (Nat × SV) → Nat → Bool → Prop
  | 0, _, _, _ => True
  | n + 1, fr, j, want => match lk fr j with
    | some (.p (.c (.bool b))) => b = want
    | some (.gd j' b' (.c (.bool b))) => b = want ∧ gcondF n fr j' b'
    | _ => True
def gcond (fr : List (Nat × SV)) (j : Nat) (want : Bool) : Prop := gcondF 6 fr j want
def oblIf (c : Prop) : List Prop → Prop → Prop
  | [], K => K
  | p :: ps, K => (c → allP (p :: ps)) ∧ K
/-- What is said of the result of an operation that is not done. -/
def skipX (o : Oper) : PV := match zeroCs P o.type with | some [c] => .c c | some l => .agg l | none => .c .junk
/-- An operation that is not done. -/
def skipS (o : Oper) (j : Nat) (want : Bool) (s : SS) (next : SS → Prop) : Prop := match o.dst with
  | some d => bif Nat.blt d s.nt && !(Nat.beq j d) then next (setF s d (.gd j want (skipX P o))) else False
  | none => next s
/-- An operation that is done where b is as is wanted. -/
def gdRun (o : Oper) (j : Nat) (b want : Bool) (s : SS) (next : SS → Prop) : Prop := match want with
  | true => bif b then sxOne P Γ o (know s j true) next else skipS P o j want (know s j false) next
  | false => bif b then skipS P o j want (know s j true) next else sxOne P Γ o (know s j false) next
def sxOps (all : List Oper) : List Oper → SS → (SS → Prop) → Prop
  | [], s, K => K s
  | o :: r, s, K => match o.guard with
    | none => sxOne P Γ o s (fun s' => sxOps all r s' K)
    | some (g, want) => match nth all g with
      | some og => match og.dst with
        | some j => match pureOp P s [(j, want)] o, o.dst with
          | some (ob, _, x), some d => bif Nat.blt d s.nt && !(Nat.beq j d) then oblIf (gcond s.fr j want) ob (sxOps all r (setF s d (.gd j want x)) K) else False
          | _, _ => match lk s.fr j with
            | some (.p (.c (.bool b))) => gdRun P Γ o j b want s (fun s' => sxOps all r s' K)
            | some (.gd j' b' (.c (.bool b))) => match lk s.fr j' with
              | some (.p (.c (.bool c))) => (match b' with
                | true => bif c then gdRun P Γ o j b want (know s j' true) (fun s' => sxOps all r s' K) else skipS P o j want (know s j' false) (fun s' => sxOps all r s' K)
                | false => bif c then skipS P o j want (know s j' true) (fun s' => sxOps all r s' K) else gdRun P Γ o j b want (know s j' false) (fun s' => sxOps all r s' K))
              | _ => False
            | _ => False
        | none => False
      | none => False
/-- A region of which the order isn't told: all its operations only read. -/
def sxSt (all : List Oper) : List Oper → SS → (SS → Prop) → Prop
  | [], s, K => K s
  | o :: r, s, K => match o.guard with
    | none => match pureX P s [] o with
      | some (ob, fc, x) => obl ob (fct fc (putK s o.dst (.p x) (fun s' => sxSt all r s' K)))
      | none => False
    | some (g, want) => match nth all g with
      | some og => match og.dst with
        | some j => match pureX P s [(j, want)] o, o.dst with
          | some (ob, _, x), some d => bif Nat.blt d s.nt && !(Nat.beq j d) then oblIf (gcond s.fr j want) ob (sxSt all r (setF s d (.gd j want x)) K) else False
          | _, _ => False
        | none => False
      | none => False
/-- How many operations stand before the first one that may do more than read. -/
def headN : List Oper → Nat
  | [] => 0
  | o :: r => match o.op with
    | .call c => (match c.callee with | .builtin .len => headN r + 1 | .builtin .cap => headN r + 1 | _ => 0)
    | .store .. => 0 | .alloc .. => 0 | .box .. => 0 | .makeSlice .. => 0 | .buildSlice .. => 0
    | _ => headN r + 1
def thenQ (K : SS → Prop) (Q : Exit → SS → Prop) : Exit → SS → Prop
  | .normal, s => K s
  | e, s => Q e s
def blockQ (id : Nat) (Q : Exit → SS → Prop) : Exit → SS → Prop
  | .exit id', s => bif Nat.beq id' id then Q .normal s else Q (.exit id') s
  | e, s => Q e s
def knowO (s : SS) (c : Operand) (b : Bool) : SS := match c with | .tmp j => know s j b | _ => s
end
section
variable {N : Nat} {P : Program} {Γ : Gam} {Λ : Lam}
theorem lk_kn {j : Nat} {want : Bool} : ∀ {fr : List (Nat × SV)} {i : Nat} {v : SV}, lk (kn j want fr) i = some v → ∃ u, lk fr i = some u ∧ v = (bif Nat.beq i j then .p (.c (.bool want)) else match u with
      | .gd j' b x => bif Nat.beq j' j then (bif b == want then .p x else u) else u
      | u => u)
  | [], i, v, h => by simp [kn, lk] at h
  | (k, u) :: r, i, v, h => by
    simp only [kn, lk] at h ⊢
    cases hj : Nat.beq k i
    · rw [hj] at h; exact lk_kn h
    · rw [hj] at h; simp only [cond_true, Option.some.injEq] at h; have := beq_eq hj; subst this; exact ⟨u, rfl, h.symm⟩
theorem once_kn {j : Nat} {want : Bool} : ∀ {fr : List (Nat × SV)}, once fr = true → once (kn j want fr) = true
  | [], _ => rfl
  | (k, u) :: r, h => by
    simp only [once, Bool.and_eq_true, kn] at h ⊢
    refine ⟨?_, once_kn h.2⟩
    cases hl : lk (kn j want r) k with
    | none => rfl
    | some x => obtain ⟨y, hy, _⟩ := lk_kn hl; rw [hy] at h; exact absurd h.1 (by simp)
theorem sat_know {π : Pers} {ρ : Env} {s : SS} {a : Act} {w : World} (S : Sat π ρ s a w) {j : Nat} {want : Bool} (hj : a.tmps[j]? = some (.bool want)) : Sat π ρ (know s j want) a w := by
  refine ⟨S.hs, ?_, S.df, S.nt, once_kn S.on⟩
  intro i v hi
  obtain ⟨u, hu, rfl⟩ := lk_kn hi
  have h0 := S.fs i u hu
  cases hij : Nat.beq i j with
  | true => have := beq_eq hij; subst this; exact ⟨_, hj, rfl⟩
  | false =>
    simp only [cond_false]
    cases u with
    | p x => exact h0
    | tup l => exact h0
    | gd j' b x =>
      simp only
      cases hb : Nat.beq j' j with
      | false => exact h0
      | true =>
        have := beq_eq hb
        subst this
        obtain ⟨v, h1, h2⟩ := h0
        simp only [cond_true]
        cases hw : (b == want) with
        | false => exact ⟨v, h1, h2⟩
        | true =>
          have := eq_of_beq hw
          subst this
          rcases h2 with ⟨_, h2⟩ | ⟨h2, _⟩
          · exact ⟨v, h1, h2⟩
          · exact absurd hj h2
def GOK (P : Program) (Γ : Gam) : Prop := ∀ f own tr, Γ f = some (own, tr) → ∀ args h Q, tr args h Q → FSpec P f args h Q
theorem Oper.wp_mono_next {P : Program} {o : Oper} {a : Act} {w : World} {n n' : Act → World → Prop} {Q : Exit → Act → World → Prop} (hn : ∀ a w, n a w → n' a w) (h : o.wp P a w n Q) : o.wp P a w n' Q := by
  unfold Oper.wp Oper.upon at *
  split at h
  · exact hn _ _ h
  · exact hn _ _ h
  · exact hn _ _ h
  · refine h.mono ?_
    intro e w' he
    cases e with
    | returned v => exact hn _ _ he
    | panicked c => exact he
    | outgrown => exact he
  · refine h.mono ?_
    intro e w' he
    exact hn _ _ he
  · exact h
  · exact h.elim
theorem upon_ok {o : Oper} {a : Act} {w w' : World} {next : Act → World → Prop} {Q : Exit → Act → World → Prop} {v : Value} (h : (execOp a.eval o).run P w = .ok (.value v) w') (hn : next (a.put o.dst v) w') : o.wp P a w next Q := by
  unfold Oper.wp
  rw [h]
  exact hn
theorem some_ok {π : Pers} {ρ : Env} {s : SS} {a : Act} {w : World} (S : Sat π ρ s a w) {x : Operand} : ∀ p, evL s [] x = some p → DenP π ρ p (a.eval x) := fun p hp => evL_ok S (gh_nil _) hp
theorem parts_ok {π : Pers} {ρ : Env} {s : SS} {a : Act} {w : World} (S : Sat π ρ s a w) (parts : Array (Nat × Operand)) : ∀ l, evParts s [] parts.toList = some l → All2 (fun p u => p.1 = u.1 ∧ DenP π ρ p.2 u.2) l (parts.map fun (i, x) => (i, a.eval x)).toList := by
  intro l hl
  rw [Array.toList_map]
  exact evParts_ok S (gh_nil _) _ l hl
theorem sxOne_ok (hΓ : GOK P Γ) {π : Pers} {ρ : Env} {o : Oper} {s : SS} {K : SS → Prop} {a : Act} {w : World} (S : Sat π ρ s a w) (h : sxOne P Γ o s K) (Q : Exit → Act → World → Prop) : o.wp P a w (fun a' w' => Out N P π ρ s w K a' w') Q := by
  unfold sxOne at h
  split at h
  · rename_i ob fc r hp
    obtain ⟨ho, hK⟩ := obl_out h
    obtain ⟨hf, u, hr, hd⟩ := pureOp_ok S (gh_nil _) hp ho
    obtain ⟨s', g1, g2, g3⟩ := putK_ok S hd (fct_out hK hf)
    exact upon_ok hr ⟨π, ρ, s', g1, by rw [g3]; exact Step.refl _ _ _ _ _, g2⟩
  · rename_i hnone
    clear hnone
    unfold impOp at h
    obtain ⟨dst, op, ty, pos, after, guard⟩ := o
    simp only at h
    split at h
    · split at h
      · rename_i t
        split at h
        · rename_i l hl
          obtain ⟨v, h1, h2⟩ := S.fs t _ hl
          obtain ⟨s', g1, g2, g3⟩ := putK_tup S h2 h
          refine upon_ok (v := v) ?_ ⟨π, ρ, s', g1, by rw [g3]; exact Step.refl _ _ _ _ _, g2⟩
          simp [execOp, Act.eval, Array.getD_eq_getD_getElem?, h1]
        · exact h.elim
      · exact h.elim
    · obtain ⟨u, w', hr, hO⟩ := allocP_ok (N := N) (a := a) S h
      exact upon_ok (by unfold execOp; exact vrun hr) hO
    · obtain ⟨u, w', hr, hO⟩ := boxP_ok (N := N) (P := P) S (some_ok S) h
      exact upon_ok (by unfold execOp; exact vrun hr) hO
    · split at h
      · obtain ⟨w', hr, hO⟩ := stoP_ok (N := N) S (some_ok S) (some_ok S) h
        unfold Oper.wp
        rw [show (execOp a.eval _).run P w = .ok .skip w' by unfold execOp; exact urun hr]
        exact hO
      · exact h.elim
    · obtain ⟨u, hr, hO⟩ := lookP_ok (N := N) S (some_ok S) (some_ok S) h
      exact upon_ok (by unfold execOp; exact vrun hr) hO
    · split at h
      · obtain ⟨w', hr, hO⟩ := mapUpV_ok (N := N) S (some_ok S) (some_ok S) (some_ok S) h
        unfold Oper.wp
        rw [show (execOp a.eval _).run P w = .ok .skip w' by unfold execOp; exact urun hr]
        exact hO
      · exact h.elim
    · obtain ⟨u, w', hr, hO⟩ := makeMapP_ok (N := N) (a := a) S h
      exact upon_ok (by unfold execOp; exact vrun hr) hO
    · obtain ⟨u, w', hr, hO⟩ := makeP_ok (N := N) S (some_ok S) (some_ok S) h
      exact upon_ok (by unfold execOp; exact vrun hr) hO
    · obtain ⟨u, w', hr, hO⟩ := s2bP_ok (N := N) (a := a) S (some_ok S) h
      exact upon_ok (by unfold execOp; exact vrun hr) hO
    · obtain ⟨u, w', hr, hO⟩ := buiP_ok (N := N) S (parts_ok S _) h
      exact upon_ok (by unfold execOp; exact vrun hr) hO
    · split at h
      · rename_i t parts p hp
        obtain ⟨u, hr, hd⟩ := buildP_ok w (parts_ok S _) hp
        obtain ⟨s', g1, g2, g3⟩ := putK_ok S hd h
        exact upon_ok (by unfold execOp; exact vrun hr) ⟨π, ρ, s', g1, by rw [g3]; exact Step.refl _ _ _ _ _, g2⟩
      · exact h.elim
    · obtain ⟨u, hr, hO⟩ := nilEq_ok (N := N) S (some_ok S) (some_ok S) _ _ h
      exact upon_ok (by unfold execOp; exact vrun hr) hO
    · rename_i c
      obtain ⟨callee, args, argTypes⟩ := c
      simp only at h
      split at h
      · rename_i d x t1 t2 ha ht
        rw [arr_of_list ha, arr_of_list ht]
        obtain ⟨u, w', hr, hO⟩ := appP_ok (N := N) (ty0 := ty) S (some_ok S) (some_ok S) h
        refine upon_ok ?_ hO
        unfold execOp
        simp [resolve, invoke, builtin, hr]
      · rename_i d x t1 t2 ha ht
        rw [arr_of_list ha, arr_of_list ht]
        obtain ⟨u, w', hr, hO⟩ := copyP_ok (N := N) (ty0 := ty) S (some_ok S) (some_ok S) h
        refine upon_ok ?_ hO
        unfold execOp
        simp [resolve, invoke, builtin, hr]
      · rename_i x
        split at h
        · rename_i f cs hcal
          obtain ⟨cvs, hfv, hcs⟩ := calleeOf_ok (some_ok S) hcal
          split at h
          · rename_i fn ps hfn hps
            cases hb : (fn.body.isSome && !(fn.name == "runtime.NumGoroutine")) with
            | false =>
              rw [hb] at h
              simp only [cond_false] at h
              split at h
              · have hz : cvs = [] := by cases cvs with | nil => rfl | cons _ _ => exact hcs.elim
                subst hz
                obtain ⟨u, w', hr, hO⟩ := extnP_ok (N := N) S hfn (evArgs_ok S _ ps hps) h
                refine upon_ok ?_ hO
                unfold execOp
                have e : (args.toList.map a.eval).toArray = args.map a.eval := by apply Array.ext'; simp
                rw [e] at hr
                simp [resolve, invoke, Deferred.ofValue, hfv, hr]
              · exact h.elim
            | true =>
              rw [hb] at h
              simp only [cond_true] at h
              split at h
              · rename_i own tr hg
                simp only [Bool.and_eq_true, Bool.not_eq_true'] at hb
                have hargs := all2_append (evArgs_ok S _ ps hps) hcs
                have hc := callF_ok (N := N) (P := P) (f := f) (hΓ f own tr hg) (a := a) S hargs h
                have hbn : fn.body.isNone = false := by cases hbb : fn.body with | none => rw [hbb] at hb; simp at hb | some _ => rfl
                unfold Oper.wp
                have he : (execOp a.eval { dst := dst, op := .call { callee := .value x, args := args, argTypes := argTypes }, type := ty, pos := pos, after := after, guard := guard }).run P w = .ok (.enter f (args.toList.map a.eval ++ cvs).toArray) w := by
                  unfold execOp
                  have e1 : ¬ (fn.name = "runtime.NumGoroutine") := by have := hb.2; simpa using this
                  have e2 : ¬ (fn.body = none) := by intro e; rw [e] at hbn; simp at hbn
                  simp [resolve, invoke, Deferred.ofValue, hfv, callFunc, hfn]
                  rw [if_neg e1, if_neg e2]
                  congr 2
                  apply Array.ext'; simp
                rw [he]
                refine hc.mono ?_
                rintro e w' ⟨v, rfl, hO⟩
                exact hO
              · exact h.elim
          · exact h.elim
        · exact h.elim
      · exact h.elim
    · exact h.elim
theorem putNone_ok {π : Pers} {ρ : Env} {s : SS} {a : Act} {w : World} (S : Sat π ρ s a w) (dst : Option Nat) (K : SS → Prop) (u : Value) : (match dst with | some d => K { s with fr := rm s.fr d } | none => K s) → ∃ s', Sat π ρ s' (a.put dst u) w ∧ K s' ∧ s'.hp = s.hp := by
  intro h
  cases dst with
  | none => exact ⟨s, S, h, rfl⟩
  | some d => exact ⟨_, sat_drop S d u, h, rfl⟩
theorem yield_iff {ops : List Oper} {g : Nat} {og : Oper} {j : Nat} {want : Bool} (hg : ops[g]? = some og) (hj : og.dst = some j) (T : Array Value) : (yielded ops.toArray T g == some want) = true ↔ T[j]? = some (.bool want) := by
  unfold yielded
  simp only [List.getElem?_toArray, hg, Option.bind_some, hj]
  constructor
  · intro h
    split at h
    · rename_i b hb
      simp at h
      subst h
      exact hb
    · simp at h
  · intro h
    rw [h]
    simp
theorem oblIf_out {c K : Prop} : ∀ {ps : List Prop}, oblIf c ps K → (c → allP ps) ∧ K
  | [], h => ⟨fun _ => trivial, h⟩
  | _ :: _, h => h
theorem gcondF_ok {π : Pers} {ρ : Env} {s : SS} {a : Act} {w : World} (S : Sat π ρ s a w) : ∀ (n j : Nat) (want : Bool), a.tmps[j]? = some (.bool want) → gcondF n s.fr j want
  | 0, _, _, _ => trivial
  | n + 1, j, want, hT => by
    simp only [gcondF]
    split
    · rename_i b hb
      obtain ⟨v, h1, h2⟩ := S.fs j _ hb
      rw [hT] at h1
      cases h1
      simp only [DenP, DenC] at h2
      cases h2; rfl
    · rename_i j' b' b hb
      obtain ⟨v, h1, h2⟩ := S.fs j _ hb
      rw [hT] at h1
      cases h1
      rcases h2 with ⟨h3, h2⟩ | ⟨_, h2⟩
      · simp only [DenP, DenC] at h2; cases h2; exact ⟨rfl, gcondF_ok S n j' b' h3⟩
      · simp [undef] at h2
    · trivial
theorem gcond_ok {π : Pers} {ρ : Env} {s : SS} {a : Act} {w : World} (S : Sat π ρ s a w) {j : Nat} {want : Bool} (hT : a.tmps[j]? = some (.bool want)) : gcond s.fr j want := gcondF_ok S 6 j want hT
theorem sxOps_ok (hΓ : GOK P Γ) {all : List Oper} {Q : Exit → Act → World → Prop} {K : SS → Prop} {π0 : Pers} {ρ0 : Env} {h0 : List HB} {w0 : World}
    (hQ : ∀ π ρ s a w, Sat π ρ s a w → Step N ρ0 h0 w0 π0 ρ s.hp w π → K s → Q .normal a w) :
    ∀ (l : List Oper) (s : SS) (π : Pers) (ρ : Env) (a : Act) (w : World), Sat π ρ s a w → Step N ρ0 h0 w0 π0 ρ s.hp w π → sxOps P Γ all l s K → wpList P all.toArray Q l a w
  | [], s, π, ρ, a, w, S, St, h => wpList_nil (hQ π ρ s a w S St h)
  | o :: r, s, π, ρ, a, w, S, St, h => by
    have ih := sxOps_ok (all := all) hΓ hQ r
    have one : ∀ (s1 : SS), Sat π ρ s1 a w → s1.hp = s.hp → sxOne P Γ o s1 (fun s' => sxOps P Γ all r s' K) → o.wp P a w (wpList P all.toArray Q r) Q := by
      intro s1 S1 hs1 h1
      have := sxOne_ok (N := N) hΓ S1 h1 Q
      refine Oper.wp_mono_next ?_ this
      rintro a' w' ⟨π', ρ', s', g1, g2, g3⟩
      rw [hs1] at g2
      exact ih s' π' ρ' a' w' g1 (St.trans g2) g3
    simp only [sxOps] at h
    split at h
    · rename_i hgd
      unfold wpList
      rw [if_pos (by simp [Region.wanted, hgd])]
      exact .inl (one s S rfl h)
    · rename_i g want hgd
      split at h
      · rename_i og hog
        rw [nth_eq] at hog
        split at h
        · rename_i j hj
          have hw : Region.wanted o (yielded all.toArray a.tmps) = true ↔ a.tmps[j]? = some (.bool want) := by
            simp only [Region.wanted, hgd]
            exact yield_iff hog hj a.tmps
          split at h
          · rename_i ob fc x d hp hd
            cases hq : (Nat.blt d s.nt && !(Nat.beq j d)) with
            | false => rw [hq] at h; exact h.elim
            | true =>
              rw [hq] at h
              simp only [cond_true] at h
              simp only [Bool.and_eq_true, Bool.not_eq_true'] at hq
              have hdn : d < s.nt := by simpa [Nat.blt_eq] using hq.1
              have hjd := beq_ne hq.2
              obtain ⟨hob, hK⟩ := oblIf_out h
              have hlen : d < a.tmps.size := by rw [S.nt]; exact hdn
              unfold wpList
              by_cases hyes : Region.wanted o (yielded all.toArray a.tmps) = true
              · rw [if_pos hyes]
                have hT := hw.1 hyes
                have hc : gcond s.fr j want := gcond_ok S hT
                obtain ⟨_, u, hr, hden⟩ := pureOp_ok S (gh_cons (gh_nil _) hT) hp (hob hc)
                left
                refine upon_ok hr ?_
                rw [hd]
                refine ih _ π ρ _ w (sat_set S hdn u (.gd j want x) ⟨u, ?_, .inl ⟨?_, hden⟩⟩) St hK
                · rw [Array.getElem?_setIfInBounds_self_of_lt hlen]
                · rw [Array.getElem?_setIfInBounds_ne (fun e => hjd e.symm)]; exact hT
              · rw [if_neg hyes, hd]
                refine ih _ π ρ _ w (sat_set S hdn undef (.gd j want x) ⟨undef, ?_, .inr ⟨?_, rfl⟩⟩) St hK
                · rw [Array.getElem?_setIfInBounds_self_of_lt hlen]
                · rw [Array.getElem?_setIfInBounds_ne (fun e => hjd e.symm)]; exact fun hT => hyes (hw.2 hT)
          · have skp : ∀ s1, Sat π ρ s1 a w → s1.hp = s.hp → ¬ Region.wanted o (yielded all.toArray a.tmps) = true → skipS P o j want s1 (fun s' => sxOps P Γ all r s' K) → wpList P all.toArray Q (o :: r) a w := by
              intro s1 S1 hs1 hno hh
              unfold skipS at hh
              unfold wpList
              rw [if_neg hno]
              cases hd : o.dst with
              | none => rw [hd] at hh; exact ih _ π ρ a w S1 (by rw [hs1]; exact St) hh
              | some d =>
                rw [hd] at hh
                simp only at hh
                cases hq : (Nat.blt d s1.nt && !(Nat.beq j d)) with
                | false => rw [hq] at hh; exact hh.elim
                | true =>
                  rw [hq] at hh
                  simp only [cond_true] at hh
                  simp only [Bool.and_eq_true, Bool.not_eq_true'] at hq
                  have hdn : d < s1.nt := by simpa [Nat.blt_eq] using hq.1
                  have hjd := beq_ne hq.2
                  have hlen : d < a.tmps.size := by rw [S1.nt]; exact hdn
                  refine ih _ π ρ _ w (sat_set S1 hdn undef (.gd j want (skipX P o)) ⟨undef, ?_, .inr ⟨?_, rfl⟩⟩) (by show Step N ρ0 h0 w0 π0 ρ s1.hp w π; rw [hs1]; exact St) hh
                  · rw [Array.getElem?_setIfInBounds_self_of_lt hlen]
                  · rw [Array.getElem?_setIfInBounds_ne (fun e => hjd e.symm)]; exact fun hT => hno (hw.2 hT)
            have run : ∀ s1 (b : Bool), Sat π ρ s1 a w → s1.hp = s.hp → a.tmps[j]? = some (.bool b) → gdRun P Γ o j b want s1 (fun s' => sxOps P Γ all r s' K) → wpList P all.toArray Q (o :: r) a w := by
              intro s1 b S1 hs1 h1 hh
              have no : ∀ c : Bool, b = c → want ≠ c → ¬ Region.wanted o (yielded all.toArray a.tmps) = true := by
                intro c hbc hne
                subst hbc
                rw [hw, h1]; intro e; simp only [Option.some.injEq, Value.bool.injEq] at e; exact hne e.symm
              have exe : ∀ c : Bool, b = c → want = c → sxOne P Γ o (know s1 j c) (fun s' => sxOps P Γ all r s' K) → wpList P all.toArray Q (o :: r) a w := by
                intro c hbc he hh
                subst hbc
                have S2 := sat_know S1 h1
                unfold wpList
                rw [if_pos (hw.2 (by rw [he]; exact h1))]
                exact .inl (one _ S2 hs1 hh)
              unfold gdRun at hh
              split at hh
              · cases hb : b with
                | true => rw [hb] at hh; exact exe true hb rfl hh
                | false => rw [hb] at hh; exact skp _ (sat_know S1 (by rw [h1, hb])) hs1 (no false hb (by simp)) hh
              · cases hb : b with
                | true => rw [hb] at hh; exact skp _ (sat_know S1 (by rw [h1, hb])) hs1 (no true hb (by simp)) hh
                | false => rw [hb] at hh; exact exe false hb rfl hh
            split at h
            · rename_i b hb
              obtain ⟨v, h1, h2⟩ := S.fs j _ hb
              simp only [DenP, DenC] at h2
              subst h2
              exact run s b S rfl h1 h
            · rename_i j' b' b hb
              split at h
              · rename_i c hc
                obtain ⟨v, h1, h2⟩ := S.fs j _ hb
                obtain ⟨v', h1', h2'⟩ := S.fs j' _ hc
                simp only [DenP, DenC] at h2'
                subst h2'
                have yes : c = b' → a.tmps[j]? = some (.bool b) := by
                  intro e
                  subst e
                  rcases h2 with ⟨_, h2⟩ | ⟨h2, _⟩
                  · simp only [DenP, DenC] at h2; rw [h1, h2]
                  · exact absurd h1' h2
                have no : c ≠ b' → ¬ Region.wanted o (yielded all.toArray a.tmps) = true := by
                  intro e
                  rcases h2 with ⟨h2, _⟩ | ⟨_, h2⟩
                  · rw [h1'] at h2; simp only [Option.some.injEq, Value.bool.injEq] at h2; exact absurd h2 e
                  · rw [hw, h1, h2]; simp [undef]
                split at h
                · cases hcc : c with
                  | true => rw [hcc] at h; exact run _ b (sat_know S (by rw [h1', hcc])) rfl (yes hcc) h
                  | false => rw [hcc] at h; exact skp _ (sat_know S (by rw [h1', hcc])) rfl (no (by rw [hcc]; simp)) h
                · cases hcc : c with
                  | true => rw [hcc] at h; exact skp _ (sat_know S (by rw [h1', hcc])) rfl (no (by rw [hcc]; simp)) h
                  | false => rw [hcc] at h; exact run _ b (sat_know S (by rw [h1', hcc])) rfl (yes hcc) h
              · exact h.elim
            · exact h.elim
        · exact h.elim
      · exact h.elim
theorem sxSt_ok {all : List Oper} {K : SS → Prop} {R : Act → Prop} {π : Pers} {ρ : Env} {h0 : List HB} {w : World}
    (hR : ∀ s a, Sat π ρ s a w → s.hp = h0 → K s → R a) : ∀ (l : List Oper) (s : SS) (a : Act), Sat π ρ s a w → s.hp = h0 → sxSt P all l s K → wpStill P all.toArray w R l a
  | [], s, a, S, hh, h => wpStill_nil (hR s a S hh h)
  | o :: r, s, a, S, hh, h => by
    have ih := sxSt_ok (all := all) hR r
    simp only [sxSt] at h
    unfold wpStill
    split at h
    · rename_i hgd
      rw [if_pos (by simp [Region.wanted, hgd])]
      split at h
      · rename_i ob fc x hp
        obtain ⟨ho, hK⟩ := obl_out h
        obtain ⟨hf, u, hr, hd⟩ := pureX_ok S (gh_nil _) hp ho
        obtain ⟨s', g1, g2, g3⟩ := putK_ok S hd (fct_out hK hf)
        unfold Oper.still
        rw [hr, Oper.stillUpon_value]
        exact ih s' _ g1 (g3.trans hh) g2
      · exact h.elim
    · rename_i g want hgd
      split at h
      · rename_i og hog
        rw [nth_eq] at hog
        split at h
        · rename_i j hj
          have hw : Region.wanted o (yielded all.toArray a.tmps) = true ↔ a.tmps[j]? = some (.bool want) := by
            simp only [Region.wanted, hgd]
            exact yield_iff hog hj a.tmps
          split at h
          · rename_i ob fc x d hp hd
            cases hq : (Nat.blt d s.nt && !(Nat.beq j d)) with
            | false => rw [hq] at h; exact h.elim
            | true =>
              rw [hq] at h
              simp only [cond_true] at h
              simp only [Bool.and_eq_true, Bool.not_eq_true'] at hq
              have hdn : d < s.nt := by simpa [Nat.blt_eq] using hq.1
              have hjd := beq_ne hq.2
              obtain ⟨hob, hK⟩ := oblIf_out h
              have hlen : d < a.tmps.size := by rw [S.nt]; exact hdn
              by_cases hyes : Region.wanted o (yielded all.toArray a.tmps) = true
              · rw [if_pos hyes]
                have hT := hw.1 hyes
                obtain ⟨_, u, hr, hden⟩ := pureX_ok S (gh_cons (gh_nil _) hT) hp (hob (gcond_ok S hT))
                unfold Oper.still
                rw [hr, Oper.stillUpon_value, hd]
                refine ih _ _ (sat_set S hdn u (.gd j want x) ⟨u, ?_, .inl ⟨?_, hden⟩⟩) hh hK
                · rw [Array.getElem?_setIfInBounds_self_of_lt hlen]
                · rw [Array.getElem?_setIfInBounds_ne (fun e => hjd e.symm)]; exact hT
              · rw [if_neg hyes, hd]
                refine ih _ _ (sat_set S hdn undef (.gd j want x) ⟨undef, ?_, .inr ⟨?_, rfl⟩⟩) hh hK
                · rw [Array.getElem?_setIfInBounds_self_of_lt hlen]
                · rw [Array.getElem?_setIfInBounds_ne (fun e => hjd e.symm)]; exact fun hT => hyes (hw.2 hT)
          · exact h.elim
        · exact h.elim
      · exact h.elim
end
end Go.Proofs.Ytkpepieepdmjpaa.Sx
