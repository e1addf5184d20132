/- A machine of abstract states over the model, part N: the operation that calls. No condition. -/
import Derived.Test.YtkpepieepdmjpaaSxM
namespace Go.Proofs.Ytkpepieepdmjpaa.Sx
open Go
set_option linter.unusedVariables false
set_option linter.unusedSimpArgs false

abbrev BR (α : Type) := Option (List Prop × List Nat × α)
/-- A slice of the call's own that is handed over to be read: as a row. -/
def brC (s : SS) : CV → BR CV
  | .view t b a n => match nth s.hp b with
    | some (.row _ t' xs) => if h : t' = t then some ([a + n ≤ xs.length], [b], .row t (vw (h ▸ xs : List t.T) a n)) else none
    | _ => none
  | c => some ([], [], c)
def brL (s : SS) : List CV → BR (List CV)
  | [] => some ([], [], [])
  | c :: r => match brC s c, brL s r with
    | some (o, b, x), some (os, bs, xs) => some (o ++ os, b ++ bs, x :: xs)
    | _, _ => none
def brP (s : SS) : PV → BR PV
  | .c c => match brC s c with
    | some (o, b, x) => some (o, b, .c x)
    | none => none
  | .agg l => match brL s l with
    | some (o, b, x) => some (o, b, .agg x)
    | none => none
  | .clo f l => some ([], [], .clo f l)
def brA (s : SS) : List Bool → List PV → BR (List PV)
  | _, [] => some ([], [], [])
  | own, p :: r => match (match own with | true :: _ => some ([], [], p) | _ => brP s p), brA s own.tail r with
    | some (o, b, x), some (os, bs, xs) => some (o ++ os, b ++ bs, x :: xs)
    | _, _ => none
def hits (ρ : Env) (g : Nat) : List Nat → Bool
  | [] => false
  | b :: r => (match ρ b with | some (g', _, _, l) => Nat.beq g' g || memN l g | none => false) || hits ρ g r
theorem hits_iff {ρ : Env} {g : Nat} : ∀ {bs : List Nat}, hits ρ g bs = true ↔ ∃ b, b ∈ bs ∧ own (ρ b) g
  | [] => by simp [hits]
  | b :: r => by
    have h0 : (match ρ b with | some (g', _, _, l) => Nat.beq g' g || memN l g | none => false) = true ↔ own (ρ b) g := by
      cases hr : ρ b with
      | none => simp [own]
      | some q =>
        obtain ⟨g', o, n, l⟩ := q
        simp only [own, Bool.or_eq_true, memN_iff]
        constructor
        · rintro (h | h)
          · exact .inl (beq_eq h).symm
          · exact .inr h
        · rintro (h | h)
          · subst h; exact .inl (Nat.beq_refl _)
          · exact .inr h
    simp only [hits, Bool.or_eq_true, hits_iff (bs := r), h0]
    constructor
    · rintro (h | ⟨c, hc, hr⟩)
      · exact ⟨b, by simp, h⟩
      · exact ⟨c, by simp [hc], hr⟩
    · rintro ⟨c, hc, hr⟩
      rcases List.mem_cons.1 hc with rfl | hc
      · exact .inl hr
      · exact .inr ⟨c, hc, hr⟩
/-- What lasts while the blocks bs are only read. -/
def brE (π : Pers) (ρ : Env) (w : World) (bs : List Nat) : Pers := fun g => match π g with
  | some vs => some vs
  | none => if hits ρ g bs = true then (match w.heap[g]? with | some (.cells vs _ _) => some vs | _ => none) else none
theorem brE_mono (π : Pers) (ρ : Env) (w : World) (bs : List Nat) : ∀ g vs, π g = some vs → brE π ρ w bs g = some vs := fun g vs h => by simp [brE, h]
theorem brE_nil (π : Pers) (ρ : Env) (w : World) : brE π ρ w [] = π := by
  funext g; unfold brE; split <;> simp_all [hits]
def disj : List Nat → List Nat → Bool
  | [], _ => true
  | b :: r, m => !memN m b && disj r m
theorem disj_ok : ∀ {bs m : List Nat}, disj bs m = true → ∀ b, b ∈ bs → b ∉ m
  | [], m, _, b, hb => by simp at hb
  | a :: r, m, h, b, hb => by
    simp only [disj, Bool.and_eq_true, Bool.not_eq_true'] at h
    rcases List.mem_cons.1 hb with rfl | hb
    · intro hm; rw [memN_iff.2 hm] at h; exact absurd h.1 (by simp)
    · exact disj_ok h.2 b hb
theorem hsat_br {π : Pers} {ρ : Env} {h : List HB} {w : World} (H : HSat π ρ h w) {m bs : List Nat} (hn : nodupN m = true) (hl : allLt h.length m = true) (hb : allLt h.length bs = true) (hd : disj bs m = true) : HSat (brE π ρ w bs) (envOf ρ m) (subH h m m) w := by
  have H0 := hsat_sub H hn hl
  refine ⟨fun k it hk => ?_, H0.lt, H0.inj, ?_, ?_, H0.out⟩
  · exact hb_keep (brE_mono π ρ w bs) (fun _ _ h => h) rfl (fun _ _ => rfl) it (H0.items k it hk)
  · intro k g hk hr
    have h0 := H0.apart k g hk hr
    unfold brE
    rw [h0]
    simp only
    split
    · rename_i hh
      obtain ⟨b, hbm, hrb⟩ := hits_iff.1 hh
      obtain ⟨c, hc, hr⟩ := own_env hr
      obtain ⟨i, hi⟩ := List.mem_iff_getElem?.1 hbm
      have := H.inj b c g (allLt_ok hb i b hi) (allLt_ok hl k c hc) hrb hr
      subst this
      exact absurd (List.mem_of_getElem? hc) (disj_ok hd b hbm)
    · rfl
  · refine ⟨fun g vs hg => ?_, gok_mono (brE_mono π ρ w bs) H.pers.2⟩
    unfold brE at hg
    split at hg
    · rename_i vs' hv; simp only [Option.some.injEq] at hg; subst hg; exact H.pers.1 g _ hv
    · split at hg
      · split at hg
        · rename_i vs' e f hv; simp only [Option.some.injEq] at hg; subst hg; exact ⟨e, f, hv⟩
        · cases hg
      · cases hg
def subsN : List Nat → List Nat → Bool
  | [], _ => true
  | b :: r, m => memN m b && subsN r m
theorem brC_ok {π : Pers} {ρ : Env} {s : SS} {a : Act} {w : World} (S : Sat π ρ s a w) {c c' : CV} {v : Value} {o : List Prop} {b : List Nat} (h : DenC π ρ c v) (hc : brC s c = some (o, b, c')) (ho : allP o) {bs : List Nat} (hb : ∀ x, x ∈ b → x ∈ bs) : DenC (brE π ρ w bs) ρ c' v := by
  unfold brC at hc
  split at hc
  · rename_i t b' i n
    split at hc
    · rename_i e t' xs hit
      split at hc
      · rename_i ht
        subst ht
        cases hc
        obtain ⟨han, _⟩ := ho
        have hvl := vw_len han
        rcases h with ⟨rfl, A, rfl⟩ | ⟨g, p, q, cc, hr, h1, h2, h3, rfl⟩
        · refine ⟨A, 0, by rw [hvl], by rw [hvl]; exact Nat.le_refl _, by simp [maxLen], .inl (by simp [vw])⟩
        · rw [nth_eq] at hit
          rcases S.hs.items b' _ hit with ⟨h4, _⟩ | ⟨g', o', vs, h4, h5, h6, h7, h8⟩
          · rw [h4] at hr; cases hr
          · have hap := S.hs.apart b' g' (List.getElem?_eq_some_iff.1 hit).1 (own_main h4)
            rw [h4] at hr
            simp only [Option.some.injEq, Prod.mk.injEq] at hr
            obtain ⟨rfl, rfl, rfl⟩ := hr
            refine ⟨_, cc, by rw [hvl], by rw [hvl]; exact h1, h2, .inr ⟨g', o' + i * t'.sz, vs, rfl, ?_, ?_⟩⟩
            · have hh : hits ρ g' bs = true := hits_iff.2 ⟨b', hb b' (by simp), own_main h4⟩
              simp [brE, hap, hh, h5]
            · intro k x hk
              have := rowAt_vw (a := i) (n := n) (show RowAt π t' vs.toList o' xs from h8) k x hk
              exact rep_mono (brE_mono π ρ w bs) t' x _ this
      · cases hc
    · cases hc
  · cases hc
    exact den_up (brE_mono π ρ w bs) (fun _ _ h => h) _ _ h
theorem allP_app {p q : List Prop} (h : allP (p ++ q)) : allP p ∧ allP q := by
  induction p with
  | nil => exact ⟨trivial, h⟩
  | cons x r ih => exact ⟨⟨h.1, (ih h.2).1⟩, (ih h.2).2⟩
theorem brL_ok {π : Pers} {ρ : Env} {s : SS} {a : Act} {w : World} (S : Sat π ρ s a w) {bs : List Nat} : ∀ {l l' : List CV} {vs : List Value} {o : List Prop} {b : List Nat}, All2 (DenC π ρ) l vs → brL s l = some (o, b, l') → allP o → (∀ x, x ∈ b → x ∈ bs) → All2 (DenC (brE π ρ w bs) ρ) l' vs
  | [], l', vs, o, b, h, hc, _, _ => by simp only [brL, Option.some.injEq, Prod.mk.injEq] at hc; obtain ⟨_, _, rfl⟩ := hc; cases vs with | nil => trivial | cons _ _ => exact h.elim
  | c :: r, l', [], o, b, h, _, _, _ => h.elim
  | c :: r, l', v :: vs, o, b, h, hc, ho, hb => by
    simp only [brL] at hc
    split at hc
    · rename_i o1 b1 x os b2 xs h1 h2
      cases hc
      obtain ⟨ho1, ho2⟩ := allP_app ho
      exact ⟨brC_ok S h.1 h1 ho1 (fun y hy => hb y (by simp [hy])), brL_ok S h.2 h2 ho2 (fun y hy => hb y (by simp [hy]))⟩
    · cases hc
theorem brP_ok {π : Pers} {ρ : Env} {s : SS} {a : Act} {w : World} (S : Sat π ρ s a w) {bs : List Nat} {c c' : PV} {v : Value} {o : List Prop} {b : List Nat} (h : DenP π ρ c v) (hc : brP s c = some (o, b, c')) (ho : allP o) (hb : ∀ x, x ∈ b → x ∈ bs) : DenP (brE π ρ w bs) ρ c' v := by
  cases c with
  | c x =>
    simp only [brP] at hc
    split at hc
    · rename_i o1 b1 y hy
      cases hc
      exact brC_ok S h hy ho hb
    · cases hc
  | agg l =>
    simp only [brP] at hc
    split at hc
    · rename_i o1 b1 y hy
      cases hc
      obtain ⟨vs, h1, h2⟩ := h
      exact ⟨vs, h1, brL_ok S h2 hy ho hb⟩
    · cases hc
  | clo f l =>
    simp only [brP, Option.some.injEq, Prod.mk.injEq] at hc
    obtain ⟨_, _, rfl⟩ := hc
    exact denp_up (brE_mono π ρ w bs) (fun _ _ h => h) _ _ h
theorem brA_ok {π : Pers} {ρ : Env} {s : SS} {a : Act} {w : World} (S : Sat π ρ s a w) {bs : List Nat} : ∀ {l l' : List PV} {own : List Bool} {vs : List Value} {o : List Prop} {b : List Nat}, All2 (DenP π ρ) l vs → brA s own l = some (o, b, l') → allP o → (∀ x, x ∈ b → x ∈ bs) → All2 (DenP (brE π ρ w bs) ρ) l' vs
  | [], l', own, vs, o, b, h, hc, _, _ => by simp only [brA, Option.some.injEq, Prod.mk.injEq] at hc; obtain ⟨_, _, rfl⟩ := hc; cases vs with | nil => trivial | cons _ _ => exact h.elim
  | c :: r, l', own, [], o, b, h, _, _, _ => h.elim
  | c :: r, l', own, v :: vs, o, b, h, hc, ho, hb => by
    simp only [brA] at hc
    split at hc
    · rename_i o1 b1 x os b2 xs h1 h2
      cases hc
      obtain ⟨ho1, ho2⟩ := allP_app ho
      refine ⟨?_, brA_ok S h.2 h2 ho2 (fun y hy => hb y (by simp [hy]))⟩
      split at h1
      · cases h1; exact denp_up (brE_mono π ρ w bs) (fun _ _ h => h) _ _ h.1
      · exact brP_ok S h.1 h1 ho1 (fun y hy => hb y (by simp [hy]))
    · cases hc

/-- The blocks that these cells lead to. -/
def refC : CV → Option Nat
  | .ptr b _ => some b | .rptr _ b _ _ => some b | .view _ b _ _ => some b | .mp b => some b | _ => none
def cellsOfP : PV → List CV | .c c => [c] | .agg l => l | .clo _ l => l
def flatten : List PV → List CV | [] => [] | p :: r => cellsOfP p ++ flatten r
def reach (h : List HB) : Nat → List CV → List Nat → List Nat
  | 0, _, seen => seen
  | _ + 1, [], seen => seen
  | k + 1, c :: r, seen => match refC c with
    | none => reach h k r seen
    | some b => bif memN seen b then reach h k r seen else match nth h b with
      | some (.cells _ cs) => reach h k (cs ++ r) (seen ++ [b])
      | some (.nest _ _ _ _ (some (_, cs))) => reach h k (cs ++ r) (seen ++ [b])
      | _ => reach h k r (seen ++ [b])
abbrev Tr := List PV → List HB → (SV → List HB → Prop) → Prop
def isE : List Nat → Bool | [] => true | _ => false
def putS (s : SS) (dst : Option Nat) (r : SV) (K : SS → Prop) : Prop :=
  match r with
  | .gd _ _ _ => False
  | r => putK s dst r K
def callP (s : SS) (own : List Bool) (tr : Tr) (args : List PV) (dst : Option Nat) (K : SS → Prop) : Prop :=
  match brA s own args with
  | some (ob, bs, args') =>
    let m := reach s.hp 1000 (flatten args') []
    bif nodupN m && allLt s.hp.length m && allLt s.hp.length bs && disj bs m then
      obl ob (tr (args'.map (renP (posOf m))) (subH s.hp m m) fun r h' =>
        bif (isE bs || (flatS r && flatHs h')) && Nat.ble m.length h'.length then
          putS { nt := s.nt, fr := renF (aftN s.hp m) s.fr, hp := mrgH s.hp h' m } dst (renS (backN s.hp.length m) r) K
        else False)
    else False
  | none => False
theorem all2_ren {π : Pers} {ρ ρ' : Env} {f : Nat → Option Nat} (hr : Ren f ρ ρ') {l : List PV} {vs : List Value} (h : All2 (DenP π ρ) l vs) : All2 (DenP π ρ') (l.map (renP f)) vs := all2_map (denp_ren hr) h
theorem callP_ok {N : Nat} {P : Program} {f : FuncId} {tr : Tr} (htr : ∀ args h Q, tr args h Q → FSpec P f args h Q) {π : Pers} {ρ : Env} {s : SS} {a : Act} {w : World} (S : Sat π ρ s a w) {own : List Bool} {args : List PV} {vs : List Value} (ha : All2 (DenP π ρ) args vs) {dst : Option Nat} {K : SS → Prop} (h : callP s own tr args dst K) :
    Calls P f vs.toArray w fun e w' => ∃ v, e = .returned v ∧ Out N P π ρ s w K (a.put dst v) w' := by
  unfold callP at h
  split at h
  · rename_i ob bs args' hbr
    dsimp only at h
    generalize hm : reach s.hp 1000 (flatten args') [] = m at h
    cases hq : (nodupN m && allLt s.hp.length m && allLt s.hp.length bs && disj bs m) with
    | false => rw [hq] at h; exact h.elim
    | true =>
      rw [hq] at h
      simp only [cond_true] at h
      simp only [Bool.and_eq_true] at hq
      obtain ⟨⟨⟨hn, hl⟩, hlb⟩, hdj⟩ := hq
      obtain ⟨ho, htr'⟩ := obl_out h
      have hsp := htr _ _ _ htr'
      have hargs := all2_ren (ren_env ρ m) (brA_ok S (bs := bs) ha hbr ho (fun x hx => hx))
      have hlen := subH_len (h := s.hp) (m := m) m
      refine (hsp (brE π ρ w bs) (envOf ρ m) w vs (hsat_br S.hs hn hl hlb hdj) hargs).mono ?_
      rintro e w' ⟨v, π', ρ', r, h', rfl, hden, H', St, hK⟩
      rw [hlen] at St
      refine ⟨v, rfl, ?_⟩
      cases hq2 : ((isE bs || (flatS r && flatHs h')) && Nat.ble m.length h'.length) with
      | false => rw [hq2] at hK; exact hK.elim
      | true =>
        rw [hq2] at hK
        simp only [cond_true] at hK
        simp only [Bool.and_eq_true, Bool.or_eq_true] at hq2
        obtain ⟨hfl, hle⟩ := hq2
        have hml := Nat.le_of_ble_eq_true hle
        -- what lasts behind the call
        have fin : ∀ πn : Pers, HSat πn ρ' h' w' → DenS πn ρ' r v → (∀ g vs, π g = some vs → πn g = some vs) → (∀ g vs, πn g = some vs → π g = some vs ∨ (∃ j, j < m.length ∧ Sx.own (envOf ρ m j) g) ∨ w.heap.size ≤ g) → Out N P π ρ s w K (a.put dst v) w' := by
          intro πn Hn hdn hp hpf
          have HM := hsat_mrg S.hs hn hl St Hn hml hp hpf
          have SM := step_mrg (N := N) S.hs hn hl St hml Hn hp hpf
          have hR2 := ren_aft S.hs hn St
          have S' : Sat πn (mrgE s.hp.length m h'.length ρ ρ') { nt := s.nt, fr := renF (aftN s.hp m) s.fr, hp := mrgH s.hp h' m } a w' := by
            refine ⟨HM, ?_, S.df, S.nt, once_ren S.on⟩
            intro i x hi
            obtain ⟨u, hu, rfl⟩ := lk_ren hi
            exact slot_ren hR2 _ (slot_up hp (fun _ _ h => h) u (S.fs i u hu))
          have hdr := dens_ren (ren_back (ρ := ρ) hn hl Hn) hdn
          generalize renS (backN s.hp.length m) r = r' at hK hdr
          cases r' with
          | gd j b x => exact hK.elim
          | p x =>
            obtain ⟨s', g1, g2, g3⟩ := putK_ok S' (x := x) hdr hK
            exact ⟨πn, _, s', g1, by rw [g3]; exact SM, g2⟩
          | tup l =>
            obtain ⟨s', g1, g2, g3⟩ := putK_tup S' (x := l) hdr hK
            exact ⟨πn, _, s', g1, by rw [g3]; exact SM, g2⟩
        rcases hfl with he | ⟨hf1, hf2⟩
        · have hbs : bs = [] := by cases bs with | nil => rfl | cons _ _ => simp [isE] at he
          subst hbs
          rw [brE_nil] at St
          refine fin π' H' hden St.pmono (fun g vs hg => ?_)
          rcases St.pfresh g vs hg with h0 | ⟨j, hj, hr⟩ | hge
          · exact .inl h0
          · exact .inr (.inl ⟨j, by omega, hr⟩)
          · exact .inr (.inr hge)
        · refine fin π ⟨?_, H'.lt, H'.inj, ?_, ?_, H'.out⟩ (dens_flat hf1 hden) (fun _ _ h => h) (fun _ _ h => .inl h)
          · intro k it hk
            exact hb_flat (flatHs_get hf2 hk) (H'.items k it hk)
          · intro k g hk hr
            have h0 := H'.apart k g hk hr
            cases hg : π g with
            | none => rfl
            | some vs => have := St.pmono g vs (brE_mono π ρ w bs g vs hg); rw [h0] at this; cases this
          · exact ⟨fun g vs hg => H'.pers.1 g vs (St.pmono g vs (brE_mono π ρ w bs g vs hg)), S.hs.pers.2⟩
  · exact h.elim

/-! ### rows that nobody writes any more -/
def keepN (bs : List Nat) (b : Nat) : Option Nat := bif memN bs b then none else some b
def goneB (bs : List Nat) : Nat → List HB → List HB
  | _, [] => []
  | k, it :: r => (bif memN bs k then .gone else renH (keepN bs) it) :: goneB bs (k + 1) r
def frzS (bs : List Nat) (s : SS) : SS := match bs with
  | [] => s
  | _ => { nt := s.nt, fr := renF (keepN bs) s.fr, hp := goneB bs 0 s.hp }
def noCells (h : List HB) : List Nat → Bool
  | [] => true
  | b :: r => (match nth h b with | some (.cells _ _) => false | some (.map _ _ _ _ _) => false | some (.row _ (.fix _) _) => false | some _ => true | none => false) && noCells h r
theorem noCells_ok {h : List HB} : ∀ {bs : List Nat}, noCells h bs = true → ∀ b, b ∈ bs → b < h.length ∧ ∀ it κ, h[b]? = some it → knd it ≠ some κ
  | [], _, b, hb => by simp at hb
  | a :: r, hq, b, hb => by
    simp only [noCells, Bool.and_eq_true] at hq
    rcases List.mem_cons.1 hb with rfl | hb
    · obtain ⟨h1, _⟩ := hq
      rw [nth_eq] at h1
      cases hx : h[b]? with
      | none => rw [hx] at h1; cases h1
      | some it =>
        refine ⟨(List.getElem?_eq_some_iff.1 hx).1, fun y κ e hκ => ?_⟩
        rw [hx] at h1
        simp only [Option.some.injEq] at e
        subst e
        cases it with
        | cells t cs => cases h1
        | map ka kt va vt es => cases h1
        | row e t xs =>
          cases t with
          | fix u => cases h1
          | _ => cases hκ
        | _ => cases hκ
    · exact noCells_ok hq.2 b hb
theorem goneB_get {bs : List Nat} : ∀ {h : List HB} {k i : Nat} {it : HB}, (goneB bs k h)[i]? = some it → ∃ x, h[i]? = some x ∧ it = (bif memN bs (k + i) then .gone else renH (keepN bs) x)
  | [], k, i, it, h => by simp [goneB] at h
  | x :: r, k, 0, it, h => by simp only [goneB, List.getElem?_cons_zero, Option.some.injEq] at h; exact ⟨x, rfl, h.symm⟩
  | x :: r, k, i + 1, it, h => by
    simp only [goneB, List.getElem?_cons_succ] at h ⊢
    obtain ⟨y, h1, h2⟩ := goneB_get h
    exact ⟨y, h1, by rw [h2, show k + 1 + i = k + (i + 1) by omega]⟩
theorem goneB_len {bs : List Nat} : ∀ {h : List HB} {k : Nat}, (goneB bs k h).length = h.length
  | [], _ => rfl
  | _ :: r, k => by simp only [goneB, List.length_cons, goneB_len (h := r)]
theorem goneB_get' {bs : List Nat} {h : List HB} {i : Nat} {x : HB} (hi : h[i]? = some x) : (goneB bs 0 h)[i]? = some (bif memN bs i then .gone else renH (keepN bs) x) := by
  have hlt : i < (goneB bs 0 h).length := by rw [goneB_len]; exact (List.getElem?_eq_some_iff.1 hi).1
  obtain ⟨y, h1, h2⟩ := goneB_get (List.getElem?_eq_getElem hlt)
  rw [hi] at h1
  cases h1
  rw [List.getElem?_eq_getElem hlt, h2, Nat.zero_add]
def frzE (bs : List Nat) (ρ : Env) : Env := fun k => bif memN bs k then none else ρ k
theorem frzE_own {bs : List Nat} {ρ : Env} {k g : Nat} (h : own (frzE bs ρ k) g) : own (ρ k) g ∧ memN bs k = false := by
  unfold frzE at h
  cases hm : memN bs k with
  | true => rw [hm] at h; exact h.elim
  | false => rw [hm] at h; exact ⟨h, rfl⟩
theorem sat_frz {N : Nat} {π : Pers} {ρ : Env} {s : SS} {a : Act} {w : World} (S : Sat π ρ s a w) {bs : List Nat} (hb : noCells s.hp bs = true) :
    ∃ π' ρ', Sat π' ρ' (frzS bs s) a w ∧ Step N ρ s.hp w π ρ' (frzS bs s).hp w π' ∧ (∀ p v, DenP (brE π ρ w bs) ρ p v → DenP π' ρ' (renP (keepN bs) p) v) ∧ (∀ c v, DenC π ρ c v → DenC π' ρ' (renC (keepN bs) c) v) := by
  cases bs with
  | nil =>
    have hR : Ren (keepN []) ρ ρ := by intro b k x hk hx; simp only [keepN, memN, cond_false, Option.some.injEq] at hk; subst hk; exact hx
    exact ⟨π, ρ, S, Step.refl _ _ _ _ _, fun p v h => by rw [brE_nil] at h; exact denp_ren hR p v h, fun c v h => den_ren hR c v h⟩
  | cons b0 bs0 =>
    generalize hbs : b0 :: bs0 = bs at *
    have hfs : frzS bs s = { nt := s.nt, fr := renF (keepN bs) s.fr, hp := goneB bs 0 s.hp } := by subst hbs; rfl
    rw [hfs]
    have hR : Ren (keepN bs) ρ (frzE bs ρ) := by
      intro b k x hk hx
      unfold keepN at hk
      unfold frzE
      cases hm : memN bs b with
      | true => rw [hm] at hk; cases hk
      | false => rw [hm] at hk; simp only [cond_false, Option.some.injEq] at hk; subst hk; rw [hm]; exact hx
    have hmono := brE_mono π ρ w bs
    have hlen : (goneB bs 0 s.hp).length = s.hp.length := goneB_len
    have hpers : ∀ g vs, brE π ρ w bs g = some vs → (π g = some vs ∨ ∃ j, j < s.hp.length ∧ own (ρ j) g) ∧ ∃ e f, w.heap[g]? = some (.cells vs e f) := by
      intro g vs hg
      unfold brE at hg
      split at hg
      · rename_i vs' hv; simp only [Option.some.injEq] at hg; subst hg; exact ⟨.inl hv, S.hs.pers.1 g _ hv⟩
      · split at hg
        · rename_i hh
          obtain ⟨b, hbm, hrb⟩ := hits_iff.1 hh
          split at hg
          · rename_i vs' e f hv; simp only [Option.some.injEq] at hg; subst hg; exact ⟨.inr ⟨b, (noCells_ok hb b hbm).1, hrb⟩, e, f, hv⟩
          · cases hg
        · cases hg
    have H : HSat (brE π ρ w bs) (frzE bs ρ) (goneB bs 0 s.hp) w := by
      refine ⟨?_, ?_, ?_, ?_, ⟨fun g vs hg => (hpers g vs hg).2, gok_mono hmono S.hs.pers.2⟩, ?_⟩
      · intro k it hk
        obtain ⟨x, hx, rfl⟩ := goneB_get hk
        rw [Nat.zero_add]
        cases hm : memN bs k with
        | true => trivial
        | false =>
          have h0 := hb_keep (π' := brE π ρ w bs) (w' := w) hmono (fun _ _ h => h) rfl (fun _ _ => rfl) x (S.hs.items k x hx)
          exact hb_ren hR (by simp [frzE, hm]) (fun _ _ => rfl) h0
      · intro k hk g hr; rw [hlen] at hk; exact S.hs.lt k hk g (frzE_own hr).1
      · intro k k' g hk hk' h1 h2; rw [hlen] at hk hk'; exact S.hs.inj k k' g hk hk' (frzE_own h1).1 (frzE_own h2).1
      · intro k g hk hr
        rw [hlen] at hk
        obtain ⟨h1, h2⟩ := frzE_own hr
        have h0 := S.hs.apart k g hk h1
        unfold brE
        rw [h0]
        simp only
        split
        · rename_i hh
          obtain ⟨b, hbm, hrb⟩ := hits_iff.1 hh
          have := S.hs.inj k b g hk (noCells_ok hb b hbm).1 h1 hrb
          subst this
          rw [memN_iff.2 hbm] at h2; cases h2
        · rfl
      · intro k hk; rw [hlen] at hk; unfold frzE; rw [S.hs.out k hk]; cases memN bs k <;> rfl
    refine ⟨brE π ρ w bs, frzE bs ρ, ⟨H, ?_, S.df, S.nt, once_ren S.on⟩, ?_, fun p v h => denp_ren hR p v h, fun c v h => den_ren hR c v (den_up hmono (fun _ _ h => h) c v h)⟩
    · intro i v hi
      obtain ⟨u, hu, rfl⟩ := lk_ren hi
      exact slot_ren hR _ (slot_up hmono (fun _ _ h => h) u (S.fs i u hu))
    · refine ⟨rfl, rfl, rfl, Nat.le_refl _, fun _ _ _ => rfl, ?_, hmono, ?_, ?_⟩
      · intro k g hk hr
        simp only [hlen] at hk
        exact .inl ⟨k, hk, (frzE_own hr).1⟩
      · intro g vs hg
        rcases (hpers g vs hg).1 with h | h
        · exact .inl h
        · exact .inr (.inl h)
      · intro k it κ _ hk hκ
        have hm : memN bs k = false := by
          cases hm : memN bs k with
          | false => rfl
          | true => exact absurd hκ ((noCells_ok hb k (memN_iff.1 hm)).2 it κ hk)
        refine ⟨by simp [frzE, hm], renH (keepN bs) it, ?_, by rw [knd_ren]; exact hκ⟩
        simp only
        rw [goneB_get' hk, hm]
        rfl
/-- Parts, in which slices of the call's own are rows that nobody writes any more. -/
def brPs (s : SS) : List (Nat × PV) → BR (List (Nat × PV))
  | [] => some ([], [], [])
  | (i, p) :: r => match brP s p, brPs s r with
    | some (o, b, x), some (os, bs, xs) => some (o ++ os, b ++ bs, (i, x) :: xs)
    | _, _ => none
theorem brPs_ok {π : Pers} {ρ : Env} {s : SS} {a : Act} {w : World} (S : Sat π ρ s a w) {bs : List Nat} : ∀ {l l' : List (Nat × PV)} {vs : List (Nat × Value)} {o : List Prop} {b : List Nat}, All2 (fun p u => p.1 = u.1 ∧ DenP π ρ p.2 u.2) l vs → brPs s l = some (o, b, l') → allP o → (∀ x, x ∈ b → x ∈ bs) → All2 (fun p u => p.1 = u.1 ∧ DenP (brE π ρ w bs) ρ p.2 u.2) l' vs
  | [], l', vs, o, b, h, hc, _, _ => by simp only [brPs, Option.some.injEq, Prod.mk.injEq] at hc; obtain ⟨_, _, rfl⟩ := hc; cases vs with | nil => trivial | cons _ _ => exact h.elim
  | c :: r, l', [], o, b, h, _, _, _ => h.elim
  | (i, p) :: r, l', v :: vs, o, b, h, hc, ho, hb => by
    simp only [brPs] at hc
    split at hc
    · rename_i o1 b1 x os b2 xs h1 h2
      cases hc
      obtain ⟨ho1, ho2⟩ := allP_app ho
      exact ⟨⟨h.1.1, brP_ok S h.1.2 h1 ho1 (fun y hy => hb y (by simp [hy]))⟩, brPs_ok S h.2 h2 ho2 (fun y hy => hb y (by simp [hy]))⟩
    · cases hc
def renPs (f : Nat → Option Nat) (l : List (Nat × PV)) : List (Nat × PV) := l.map fun p => (p.1, renP f p.2)
/-- Whether the blocks hold no rows of data. -/
def flatAt (h : List HB) : List Nat → Bool
  | [] => true
  | b :: r => (match nth h b with | some it => flatH it | none => true) && flatAt h r
/-- A call; where what is handed over to be read can't be told apart behind it, it is read alone from now on. -/
def callF (s : SS) (own : List Bool) (tr : Tr) (args : List PV) (dst : Option Nat) (K : SS → Prop) : Prop :=
  match brA s own args with
  | some (ob, bs, args') => bif isE bs || flatAt s.hp (reach s.hp 1000 (flatten args') []) then callP s own tr args dst K
    else bif noCells s.hp bs then obl ob (callP (frzS bs s) (args'.map fun _ => true) tr (args'.map (renP (keepN bs))) dst K) else False
  | none => False
theorem callF_ok {N : Nat} {P : Program} {f : FuncId} {tr : Tr} (htr : ∀ args h Q, tr args h Q → FSpec P f args h Q) {π : Pers} {ρ : Env} {s : SS} {a : Act} {w : World} (S : Sat π ρ s a w) {own : List Bool} {args : List PV} {vs : List Value} (ha : All2 (DenP π ρ) args vs) {dst : Option Nat} {K : SS → Prop} (h : callF s own tr args dst K) :
    Calls P f vs.toArray w fun e w' => ∃ v, e = .returned v ∧ Out N P π ρ s w K (a.put dst v) w' := by
  unfold callF at h
  split at h
  · rename_i ob bs args' hbr
    cases hc : (isE bs || flatAt s.hp (reach s.hp 1000 (flatten args') [])) with
    | true => rw [hc] at h; exact callP_ok htr S ha h
    | false =>
      rw [hc] at h
      simp only [cond_false] at h
      cases hq : noCells s.hp bs with
      | false => rw [hq] at h; exact h.elim
      | true =>
        rw [hq] at h
        obtain ⟨ho, hK⟩ := obl_out h
        obtain ⟨π', ρ', S', St, hp', hc'⟩ := sat_frz (N := N) S hq
        have hd := brA_ok S (bs := bs) ha hbr ho (fun x hx => hx)
        refine (callP_ok (N := N) htr S' (all2_map hp' hd) hK).mono ?_
        rintro e w' ⟨v, rfl, π2, ρ2, s2, h2, h3, h4⟩
        exact ⟨v, rfl, π2, ρ2, s2, h2, St.trans h3, h4⟩
  · exact h.elim
end Go.Proofs.Ytkpepieepdmjpaa.Sx
