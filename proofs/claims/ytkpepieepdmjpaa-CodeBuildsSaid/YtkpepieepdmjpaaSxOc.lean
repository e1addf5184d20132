/- A machine of abstract states over the model, part Oc: code. No condition. -/
import Derived.Test.YtkpepieepdmjpaaSxOb
namespace Go.Proofs.Ytkpepieepdmjpaa.Sx
open Go
set_option linter.unusedVariables false
set_option linter.unusedSimpArgs false

/-- From where on the operations come one behind the other. -/
def tailN (ops : Array Oper) : Nat → Nat → Nat
  | 0, k => k
  | f + 1, k => bif Region.sinkB .any ops k && Region.chainB .any ops k then k else tailN ops f (k + 1)
def tmpsOf : List Operand → List Nat
  | [] => []
  | .tmp t :: r => t :: tmpsOf r
  | _ :: r => tmpsOf r
def callTmps : List Oper → List Nat
  | [] => []
  | o :: r => (match o.op with
    | .call c => (match c.callee with | .value f => tmpsOf (f :: c.args.toList) | _ => [])
    | _ => []) ++ callTmps r
/-- The slot from which what stands in t is had, by moves, loads and steps into structs; whether by a load. -/
def wayOf (all : List Oper) : Nat → Nat → List (Nat × Bool)
  | 0, _ => []
  | f + 1, t => match all.find? (fun o => match o.dst with | some d => Nat.beq d t | none => false) with
    | none => [(t, false)]
    | some o => match o.op with
      | .move (.tmp v) => wayOf all f v
      | .assign (.tmp v) => (t, false) :: wayOf all f v
      | .nilCheck (.tmp v) => wayOf all f v
      | .load _ (.tmp v) => (wayOf all f v).map fun p => (p.1, true)
      | .fieldAddr _ (.tmp v) _ => wayOf all f v
      | .indexAddr _ (.tmp v) _ => wayOf all f v
      | .slice _ (.tmp v) _ _ _ => wayOf all f v
      | _ => []
/-- What the cells hold that these lead to. -/
def derefs (h : List HB) : List CV → List CV
  | [] => []
  | c :: r => (match refC c with
    | some b => (match nth h b with | some (.cells _ cs) => cs | _ => [c])
    | none => []) ++ derefs h r
def rootsT (all : List Oper) (h : List HB) (fr : List (Nat × SV)) : List (Nat × Bool) → List CV
  | [] => []
  | (t, d) :: r => (let l := (match lk fr t with | some v => (match v with | .p x => cellsOfP x | .gd _ _ x => cellsOfP x | .tup l => flatten l) | none => []); match d with | true => derefs h l | false => l) ++ rootsT all h fr r
def ways (all : List Oper) : List Nat → List (Nat × Bool)
  | [] => []
  | t :: r => wayOf all 20 t ++ ways all r
def rowTmps : List Oper → List Nat
  | [] => []
  | o :: r => (match o.op with
    | .call c => (match c.callee, c.args.toList with | .builtin .append, .tmp t :: _ => [t] | .builtin .copy, .tmp t :: _ => [t] | _, _ => [])
    | .mapUpdate _ (.tmp t) _ _ => [t]
    | .buildSlice _ _ parts => tmpsOf (parts.toList.map (·.2))
    | _ => []) ++ rowTmps r
def rowsOf (h : List HB) : List Nat → List Nat
  | [] => []
  | b :: r => match nth h b with
    | some (.cells _ _) => rowsOf h r
    | some .gone => rowsOf h r
    | some _ => b :: rowsOf h r
    | none => rowsOf h r
def protH (T : List Nat) : Nat → List HB → List Nat
  | _, [] => []
  | k, it :: r => bif memN T k then protH T (k + 1) r else match it with
    | .gone => protH T (k + 1) r
    | _ => k :: protH T (k + 1) r
def protB (all : List Oper) (s : SS) : List Nat := protH (reach s.hp 1000 (rootsT all s.hp s.fr (ways all (callTmps all))) [] ++ rowsOf s.hp (reach s.hp 1000 (rootsT all s.hp s.fr ((ways all (rowTmps all)).map fun p => (p.1, false))) [])) 0 s.hp
def falses : Nat → List Bool
  | 0 => []
  | n + 1 => false :: falses n
theorem falses_eq : ∀ n, falses n = List.replicate n false
  | 0 => rfl
  | n + 1 => by rw [falses, falses_eq n]; rfl
section
variable (P : Program) (Γ : Gam) (Λ : Lam)
def sx : Code → Nat → SS → (Exit → SS → Prop) → Prop
  | .skip, _, s, Q => Q .normal s
  | .label _, _, s, Q => Q .normal s
  | .region _ ops draw, _, s, Q => bif draw then (bif P.follows .mixedOrders then (bif Nat.beq (headN ops.toList) ops.toList.length && Region.lexB .any ops then sxSt P ops.toList ops.toList s (Q .normal)
      else (bif Region.lexTailB .any ops (headN ops.toList) then sxSt P ops.toList (ops.toList.take (headN ops.toList)) s (fun s' => sxOps P Γ ops.toList (ops.toList.drop (headN ops.toList)) s' (Q .normal))
      else (bif Region.noSelect ops && (Nat.beq (tailN ops ops.toList.length 0) ops.toList.length || (Nat.blt (tailN ops ops.toList.length 0) ops.toList.length && Region.sinkB .any ops (tailN ops ops.toList.length 0) && Region.chainB .any ops (tailN ops ops.toList.length 0))) && allLt s.hp.length (protB ops.toList s)
        then sxDr P Γ ops.toList (protB ops.toList s) (tailN ops ops.toList.length 0) (tailN ops ops.toList.length 0) (falses ops.toList.length).toArray false s (fun s' => sxOps P Γ ops.toList (ops.toList.drop (tailN ops ops.toList.length 0)) s' (Q .normal)) else False))) else False)
      else sxOps P Γ ops.toList ops.toList s (Q .normal)
  | .seq x y, k, s, Q => sx x k s (thenQ (fun s' => sx y k s' Q) Q)
  | .cond c x y, k, s, Q => match evL s [] c with
    | some (.c (.bool b)) => bif b then sx x k (knowO s c true) Q else sx y k (knowO s c false) Q
    | _ => False
  | .block id c, _, s, Q => sx c id s (blockQ id Q)
  | .loop _, k, s, Q => Λ k s Q
  | .exit id, _, s, Q => Q (.exit id) s
  | .ret, _, s, Q => Q .ret s
  | _, _, _, _ => False
def loopsOf : Code → Nat → List (Nat × Code)
  | .seq x y, k => loopsOf x k ++ loopsOf y k
  | .cond _ x y, k => loopsOf x k ++ loopsOf y k
  | .block id c, _ => loopsOf c id
  | .loop c, k => [(k, c)]
  | _, _ => []
end
section
variable {N : Nat} {P : Program} {Γ : Gam} {Λ : Lam}
def LOK (N : Nat) (P : Program) (Λ : Lam) (l : List (Nat × Code)) : Prop := ∀ k c, (k, c) ∈ l → ∀ s Q, Λ k s Q → W N P (.loop c) s Q
theorem satKnowO {π : Pers} {ρ : Env} {s : SS} {a : Act} {w : World} (S : Sat π ρ s a w) {c : Operand} {b : Bool} (h : a.eval c = .bool b) : Sat π ρ (knowO s c b) a w := by
  cases c with
  | tmp j =>
    refine sat_know S ?_
    simp only [Act.eval, Array.getD_eq_getD_getElem?] at h
    cases hh : a.tmps[j]? with
    | none => rw [hh] at h; simp [undef] at h
    | some z => rw [hh] at h; simp at h; rw [h]
  | const v => exact S
  | global g => exact S
  | func f => exact S
theorem knowO_hp (s : SS) (c : Operand) (b : Bool) : (knowO s c b).hp = s.hp := by cases c <;> rfl
theorem sx_ok (hΓ : GOK P Γ) : ∀ (c : Code) (k : Nat) (s : SS) (Q : Exit → SS → Prop), LOK N P Λ (loopsOf c k) → sx P Γ Λ c k s Q → W N P c s Q
  | .skip, _, s, Q, _, h => fun π ρ a w S => wp_skip ⟨π, ρ, s, S, Step.refl _ _ _ _ _, h⟩
  | .label _, _, s, Q, _, h => fun π ρ a w S => wp_label ⟨π, ρ, s, S, Step.refl _ _ _ _ _, h⟩
  | .exit _, _, s, Q, _, h => fun π ρ a w S => wp_exit ⟨π, ρ, s, S, Step.refl _ _ _ _ _, h⟩
  | .ret, _, s, Q, _, h => fun π ρ a w S => wp_ret ⟨π, ρ, s, S, Step.refl _ _ _ _ _, h⟩
  | .region id ops draw, _, s, Q, _, h => by
    intro π ρ a w S
    simp only [sx] at h
    cases draw with
    | true =>
      simp only [cond_true] at h
      have S1 : Sat π ρ s a { w with drawn := w.drawn + 1 } := ⟨⟨fun k it hk => hb_keep (w := w) (w' := { w with drawn := w.drawn + 1 }) (fun _ _ h => h) (fun _ _ h => h) rfl (fun _ _ => rfl) it (S.hs.items k it hk), S.hs.lt, S.hs.inj, S.hs.apart, S.hs.pers, S.hs.out⟩, S.fs, S.df, S.nt, S.on⟩
      have St1 : Step N ρ s.hp w π ρ s.hp { w with drawn := w.drawn + 1 } π := ⟨rfl, rfl, rfl, Nat.le_refl _, fun _ _ _ => rfl, fun k g hk hr => .inl ⟨k, hk, hr⟩, fun _ _ h => h, fun _ _ h => .inl h, fun k it κ _ hk hκ => ⟨rfl, it, hk, hκ⟩⟩
      cases hf : P.follows .mixedOrders with
      | false => rw [hf] at h; exact h.elim
      | true =>
        rw [hf] at h
        simp only [cond_true] at h
        cases hq : (Nat.beq (headN ops.toList) ops.toList.length && Region.lexB .any ops) with
        | true =>
          rw [hq] at h
          simp only [cond_true] at h
          refine wp_region_still hf (by simp only [Bool.and_eq_true] at hq; exact hq.2) ?_
          have := sxSt_ok (P := P) (all := ops.toList) (K := Q .normal) (R := fun a' => ∃ π' ρ' s', Sat π' ρ' s' a' { w with drawn := w.drawn + 1 } ∧ Step N ρ s.hp w π ρ' s'.hp { w with drawn := w.drawn + 1 } π' ∧ Q .normal s') (π := π) (ρ := ρ) (h0 := s.hp) (w := { w with drawn := w.drawn + 1 })
            (fun s' a' S' hh hk => ⟨π, ρ, s', S', by rw [hh]; exact St1, hk⟩) ops.toList s a S1 rfl h
          simpa using this
        | false =>
          rw [hq] at h
          simp only [cond_false] at h
          cases hq2 : Region.lexTailB .any ops (headN ops.toList) with
          | false =>
            rw [hq2] at h
            simp only [cond_false] at h
            generalize hn : tailN ops ops.toList.length 0 = n at h
            generalize hB : protB ops.toList s = B at h
            cases hq3 : (Region.noSelect ops && (Nat.beq n ops.toList.length || (Nat.blt n ops.toList.length && Region.sinkB .any ops n && Region.chainB .any ops n)) && allLt s.hp.length B) with
            | false => rw [hq3] at h; exact h.elim
            | true =>
              rw [hq3] at h
              simp only [cond_true] at h
              simp only [Bool.and_eq_true, Bool.or_eq_true] at hq3
              obtain ⟨⟨hsel, hnn⟩, hBl⟩ := hq3
              have htoa : ops.toList.toArray = ops := by simp
              have hsz : ops.toList.length = ops.size := by simp
              rw [falses_eq, hsz] at h
              have hrep : (List.replicate ops.size false).toArray = Array.replicate ops.size false := by simp
              rw [hrep] at h
              have hnle : n ≤ ops.size := by
                rcases hnn with h1 | h1
                · rw [beq_eq h1, hsz]; exact Nat.le_refl _
                · have := h1.1.1; rw [hsz] at this; have := (by simpa [Nat.blt_eq] using this : n < ops.size); omega
              have htl : ∀ (i : Nat), i < n → ∀ (listed : Array Bool), HeadInv .any ops.toList.toArray n listed → listed.getD i true = false → ∀ t, n ≤ t → t ∉ Region.ready .any ops.toList.toArray listed := by
                rw [htoa]
                intro i hi listed inv hun t ht
                rcases hnn with h1 | h1
                · intro hr
                  obtain ⟨_, oi, hoi, _⟩ := mem_ready.1 hr
                  have := (Array.getElem?_eq_some_iff.1 hoi).1
                  have := beq_eq h1
                  omega
                · obtain ⟨⟨h2, h3⟩, h4⟩ := h1
                  rw [hsz] at h2
                  exact tail_waits h3 h4 (by simpa [Nat.blt_eq] using h2) inv _ i rfl hi hun t ht
              have inv0 : HeadInv .any ops.toList.toArray n (Array.replicate ops.size false) := by
                rw [htoa]
                exact ⟨by simp, fun j oj _ hl => (by rw [getD_replicate_false] at hl; cases hl), fun t _ ht => getD_in (by simpa using ht) (getD_replicate_false _ _)⟩
              have HL := sxDr_ok (N := N) (B := B) (π0 := π) (ρ0 := ρ) (w0 := { w with drawn := w.drawn + 1 }) (πs := π) (ρs := ρ) (hs := s.hp) (ws := w) (Q := fun e a' w' => e = .normal ∧ ∃ π' ρ' s', Sat π' ρ' s' a' w' ∧ Step N ρ s.hp w π ρ' s'.hp w' π' ∧ Q e s')
                (K := fun s' => sxOps P Γ ops.toList (ops.toList.drop n) s' (Q .normal)) hΓ (by rw [htoa]; exact hsel) htl (fun c a w hq => (by cases hq.1))
                (fun s' π' ρ' a' w' S' St' hk => sxOps_ok (N := N) hΓ (all := ops.toList) (K := Q .normal) (Q := fun e a' w' => e = .normal ∧ ∃ π' ρ' s', Sat π' ρ' s' a' w' ∧ Step N ρ s.hp w π ρ' s'.hp w' π' ∧ Q e s')
                  (fun π2 ρ2 s2 a2 w2 S2 St2 hk2 => ⟨rfl, π2, ρ2, s2, S2, St2, hk2⟩) _ s' π' ρ' a' w' S' St' hk)
                n _ false s π ρ a _ inv0 ⟨S1, fun _ _ => rfl, fun _ _ h => h, fun _ => rfl, fun k hk => ⟨rfl, by
                  obtain ⟨i, hi⟩ := List.mem_iff_getElem?.1 (memN_iff.1 hk)
                  exact allLt_ok hBl i k hi⟩⟩ St1 h
              have HA := wpHL_any (g := ops.size - n) (fun listed a' w' hL => by
                have := wpAny_of_seq (md := .any) (P := P) (ops.toList.drop n) n listed a' w' (fun j => by simp [List.getElem?_drop]) (by rw [List.length_drop]; exact hL.1) hL.2
                rw [List.length_drop, hsz] at this
                exact this) n _ a _ HL
              rw [show n + (ops.size - n) = ops.size by omega, htoa] at HA
              exact wp_mono (wp_region_any hf HA) (fun e a' w' hq => hq.2)
          | true =>
            rw [hq2] at h
            simp only [cond_true] at h
            have H := wp_region_still_tail (P := P) (id := id) (l := ops.toList) (a := a) (w := w) (Q := fun e a' w' => ∃ π' ρ' s', Sat π' ρ' s' a' w' ∧ Step N ρ s.hp w π ρ' s'.hp w' π' ∧ Q e s') (headN ops.toList) hf (by simpa using hq2)
              (sxSt_ok (P := P) (all := ops.toList) (K := fun s' => sxOps P Γ ops.toList (ops.toList.drop (headN ops.toList)) s' (Q .normal)) (π := π) (ρ := ρ) (h0 := s.hp) (w := { w with drawn := w.drawn + 1 })
                (fun s' a' S' hh hk => sxOps_ok (N := N) hΓ (all := ops.toList) (K := Q .normal) (Q := fun e a' w' => ∃ π' ρ' s', Sat π' ρ' s' a' w' ∧ Step N ρ s.hp w π ρ' s'.hp w' π' ∧ Q e s')
                  (fun π' ρ' s2 a2 w2 S2 St2 hk2 => ⟨π', ρ', s2, S2, St2, hk2⟩) _ s' π ρ a' _ S' (by rw [hh]; exact St1) hk) _ s a S1 rfl h)
            simpa using H
    | false =>
      refine wp_region_list ?_
      have := sxOps_ok (N := N) hΓ (all := ops.toList) (K := Q .normal) (Q := fun e a' w' => ∃ π' ρ' s', Sat π' ρ' s' a' w' ∧ Step N ρ s.hp w π ρ' s'.hp w' π' ∧ Q e s')
        (fun π' ρ' s' a' w' S' St hk => ⟨π', ρ', s', S', St, hk⟩) ops.toList s π ρ a w S (Step.refl _ _ _ _ _) h
      simpa using this
  | .seq x y, k, s, Q, hl, h => by
    intro π ρ a w S
    simp only [sx] at h
    have hx := sx_ok hΓ x k s _ (fun k' c hc => hl k' c (by simp only [loopsOf, List.mem_append]; exact .inl hc)) h π ρ a w S
    refine wp_seq (wp_mono hx ?_)
    rintro e a' w' ⟨π', ρ', s', S', St, hq⟩
    cases e with
    | normal =>
      have hy := sx_ok hΓ y k s' Q (fun k' c hc => hl k' c (by simp only [loopsOf, List.mem_append]; exact .inr hc)) hq π' ρ' a' w' S'
      refine wp_mono hy ?_
      rintro e a2 w2 ⟨π2, ρ2, s2, S2, St2, hq2⟩
      exact ⟨π2, ρ2, s2, S2, St.trans St2, hq2⟩
    | exit id => exact ⟨π', ρ', s', S', St, hq⟩
    | goto l => exact ⟨π', ρ', s', S', St, hq⟩
    | ret => exact ⟨π', ρ', s', S', St, hq⟩
    | panic c => exact ⟨π', ρ', s', S', St, hq⟩
    | outgrown => exact ⟨π', ρ', s', S', St, hq⟩
  | .cond c x y, k, s, Q, hl, h => by
    intro π ρ a w S
    simp only [sx] at h
    split at h
    · rename_i b hc
      have hv := evL_ok S (gh_nil _) hc
      simp only [DenP, DenC] at hv
      refine wp_cond hv ?_
      cases b with
      | true =>
        have := sx_ok hΓ x k _ Q (fun k' c hc => hl k' c (by simp only [loopsOf, List.mem_append]; exact .inl hc)) h π ρ a w (satKnowO S hv)
        rw [knowO_hp] at this
        exact this
      | false =>
        have := sx_ok hΓ y k _ Q (fun k' c hc => hl k' c (by simp only [loopsOf, List.mem_append]; exact .inr hc)) h π ρ a w (satKnowO S hv)
        rw [knowO_hp] at this
        exact this
    · exact h.elim
  | .block id c, _, s, Q, hl, h => by
    intro π ρ a w S
    simp only [sx] at h
    have hx := sx_ok hΓ c id s _ hl h π ρ a w S
    refine wp_block (wp_mono hx ?_)
    rintro e a' w' ⟨π', ρ', s', S', St, hq⟩
    cases e with
    | exit id' =>
      simp only [blockQ] at hq
      simp only [Exit.inBlock]
      by_cases he : id' = id
      · subst he
        rw [if_pos rfl]
        rw [Nat.beq_refl] at hq
        exact ⟨π', ρ', s', S', St, hq⟩
      · rw [if_neg he]
        have : Nat.beq id' id = false := by cases hb : Nat.beq id' id with | false => rfl | true => exact absurd (beq_eq hb) he
        rw [this] at hq
        exact ⟨π', ρ', s', S', St, hq⟩
    | normal => exact ⟨π', ρ', s', S', St, hq⟩
    | goto l => exact ⟨π', ρ', s', S', St, hq⟩
    | ret => exact ⟨π', ρ', s', S', St, hq⟩
    | panic c => exact ⟨π', ρ', s', S', St, hq⟩
    | outgrown => exact ⟨π', ρ', s', S', St, hq⟩
  | .loop c, k, s, Q, hl, h => hl k c (by simp [loopsOf]) s Q h
  | .rangeFunc .., _, _, _, _, h => h.elim
  | .scope _, _, _, _, _, h => h.elim
  | .goto _, _, _, _, _, h => h.elim
  | .refuse _, _, _, _, _, h => h.elim
end

/-! ### what a state fits -/
def cellsOfS : SV → List CV | .p x => cellsOfP x | .gd _ _ x => cellsOfP x | .tup l => flatten l
def rootsF (fr : List (Nat × SV)) : List (Nat × SV) → List CV
  | [] => []
  | (i, _) :: r => (match lk fr i with | some v => cellsOfS v | none => []) ++ rootsF fr r
def rootsH : List HB → List CV
  | [] => []
  | .cells _ cs :: r => cs ++ rootsH r
  | _ :: r => rootsH r
def names (N : Nat) (s : SS) (l : List CV) : List Nat := reach s.hp 1000 (rootsH (s.hp.take N) ++ l) (rangeN N)
def fitsF (fr : List (Nat × SV)) : List (Nat × SV) → Prop
  | [] => True
  | (i, v) :: r => lk fr i = some v ∧ fitsF fr r
def okN (N : Nat) (n : Nat) (m : List Nat) : Bool := nodupN m && allLt n m && isPre N m
/-- The state s, but for what t doesn't speak of, is t. -/
def Fits (N : Nat) (s t : SS) : Prop :=
  let m := names N s (rootsF s.fr t.fr)
  (okN N s.hp.length m = true ∧ once t.fr = true ∧ s.nt = t.nt) ∧ fitsF (renF (posOf m) s.fr) t.fr ∧ subH s.hp m m = t.hp
theorem fitsF_get {fr : List (Nat × SV)} : ∀ {t : List (Nat × SV)}, fitsF fr t → ∀ i v, lk t i = some v → lk fr i = some v
  | [], _, i, v, h => by simp [lk] at h
  | (j, u) :: r, hf, i, v, h => by
    simp only [lk] at h
    cases hj : Nat.beq j i with
    | true => rw [hj] at h; simp only [cond_true, Option.some.injEq] at h; subst h; rw [← beq_eq hj]; exact hf.1
    | false => rw [hj] at h; exact fitsF_get hf.2 i v h
theorem fits_ok {N : Nat} {s t : SS} (h : Fits N s t) {π : Pers} {ρ : Env} {a : Act} {w : World} (S : Sat π ρ s a w) : ∃ ρ', Sat π ρ' t a w ∧ ∀ {ρ2 h2 w2 π2}, Step N ρ2 h2 w2 π2 ρ s.hp w π → Step N ρ2 h2 w2 π2 ρ' t.hp w π := by
  unfold Fits at h
  dsimp only at h
  generalize names N s (rootsF s.fr t.fr) = m at h
  obtain ⟨⟨hm, ho, hnt⟩, hf, hh⟩ := h
  simp only [okN, Bool.and_eq_true] at hm
  have S1 := sat_restrict S hm.1.1 hm.1.2
  refine ⟨envOf ρ m, ⟨?_, ?_, S.df, ?_, ho⟩, ?_⟩
  · have := S1.hs; unfold restrict at this; rw [hh] at this; exact this
  · intro i v hi
    exact S1.fs i v (fitsF_get hf i v hi)
  · rw [← hnt]; exact S.nt
  · intro ρ2 h2 w2 π2 St
    have hlen := subH_len (h := s.hp) (m := m) m
    refine ⟨St.os, St.tape, St.output, St.size, St.block, ?_, St.pmono, St.pfresh, ?_⟩
    · intro k g hk hr
      obtain ⟨b, hb, hr'⟩ := own_env hr
      exact St.fresh b g (allLt_ok hm.1.2 k b hb) hr'
    · intro k it κ hk hit hκ
      obtain ⟨e1, it', e2, k2⟩ := St.keep k it κ hk hit hκ
      have hmk := isPre_ok hm.2 k hk
      have hlt : k < (subH s.hp m m).length := by rw [hlen]; exact (List.getElem?_eq_some_iff.1 hmk).1
      have hget := List.getElem?_eq_getElem hlt
      obtain ⟨b, hb, he⟩ := subH_get hget
      rw [hmk] at hb
      cases hb
      refine ⟨by rw [← e1]; simp [envOf, hmk], renH (posOf m) it', ?_, by rw [knd_ren]; exact k2⟩
      rw [← hh, hget, he, e2]
      rfl

/-! ### functions -/
def argsF : Nat → List PV → List (Nat × SV)
  | _, [] => []
  | i, p :: r => (i, .p p) :: argsF (i + 1) r
def resOf (P : Program) (s : SS) : List ResultVar → Option (List PV)
  | [] => some []
  | .tmp t :: r => match lk s.fr t, resOf P s r with
    | some (.p x), some xs => some (x :: xs)
    | _, _ => none
  | .cell a t :: r => match lk s.fr a, resOf P s r with
    | some (.p p), some xs => match loadC P s t p with
      | some ([], _, x) => some (x :: xs)
      | _ => none
    | _, _ => none
def tupOf : List PV → SV | [x] => .p x | l => .tup l
/-- At the end of a function: what it hands back, and the blocks that are known behind it. -/
def retQ (P : Program) (rs : List ResultVar) (N : Nat) (Q : SV → List HB → Prop) : Exit → SS → Prop
  | .normal, s | .ret, s => match resOf P s rs with
    | some l => let m := names N s (flatten l)
      bif okN N s.hp.length m then Q (renS (posOf m) (tupOf l)) (subH s.hp m m) else False
    | none => False
  | _, _ => False
theorem argsF_lk : ∀ {l : List PV} {k i : Nat} {v : SV}, lk (argsF k l) i = some v → ∃ p, l[i - k]? = some p ∧ v = .p p ∧ k ≤ i
  | [], k, i, v, h => by simp [argsF, lk] at h
  | p :: r, k, i, v, h => by
    simp only [argsF, lk] at h
    cases hj : Nat.beq k i with
    | true => rw [hj] at h; simp only [cond_true, Option.some.injEq] at h; have := beq_eq hj; subst this; exact ⟨p, by simp, h.symm, Nat.le_refl _⟩
    | false =>
      rw [hj] at h
      obtain ⟨q, h1, h2, h3⟩ := argsF_lk h
      exact ⟨q, by rw [show i - k = (i - (k + 1)) + 1 by omega, List.getElem?_cons_succ]; exact h1, h2, by omega⟩
theorem argsF_once : ∀ {l : List PV} {k : Nat}, once (argsF k l) = true
  | [], _ => rfl
  | p :: r, k => by
    simp only [argsF, once, Bool.and_eq_true]
    refine ⟨?_, argsF_once⟩
    cases hl : lk (argsF (k + 1) r) k with
    | none => rfl
    | some x => obtain ⟨_, _, _, h3⟩ := argsF_lk hl; omega
def resM (T : Array Value) : ResultVar → Sem Value
  | .tmp t => pure (T.getD t undef)
  | .cell a t => do loadVar t (← asAddr (T.getD a undef))
theorem load_as {P : Program} {t : TypeId} {v u : Value} {w w' : World} (h : (Instr.loadAt t v).run P w = .ok u w') : (do loadVar t (← asAddr v) : Sem Value).run P w = .ok u w' := by
  unfold Instr.loadAt at h
  cases v with
  | pointer A =>
    cases A with
    | none => simp [Instr.sureAddr, stuck] at h
    | some A => exact h
  | _ => simp [Instr.sureAddr, stuck] at h
theorem resOf_ok {P : Program} {π : Pers} {ρ : Env} {s : SS} {a : Act} {w : World} (S : Sat π ρ s a w) : ∀ (rs : List ResultVar) (l : List PV), resOf P s rs = some l → ∃ us : List Value, (rs.mapM (resM a.tmps)).run P w = .ok us w ∧ All2 (DenP π ρ) l us
  | [], l, h => by simp only [resOf, Option.some.injEq] at h; subst h; exact ⟨[], by simp, trivial⟩
  | .tmp t :: r, l, h => by
    simp only [resOf] at h
    split at h
    · rename_i x xs hx hxs
      cases h
      obtain ⟨us, h1, h2⟩ := resOf_ok S r xs hxs
      obtain ⟨v, h3, h4⟩ := S.fs t _ hx
      refine ⟨v :: us, ?_, h4, h2⟩
      simp only [List.mapM_cons, resM, Sem.run_bind, Sem.run_pure, Result.andThen_ok, h1, Array.getD_eq_getD_getElem?, h3, Option.getD_some]
    · cases h
  | .cell ad t :: r, l, h => by
    simp only [resOf] at h
    split at h
    · rename_i p xs hx hxs
      split at h
      · rename_i fc x hl
        cases h
        obtain ⟨us, h1, h2⟩ := resOf_ok S r xs hxs
        obtain ⟨v, h3, h4⟩ := S.fs ad _ hx
        obtain ⟨_, u, h5, h6⟩ := loadC_ok (P := P) S h4 hl trivial
        have h5 := h5 w (Alike.refl _ _ _ _)
        refine ⟨u :: us, ?_, h6, h2⟩
        have h7 := load_as h5
        simp only [List.mapM_cons, resM, Sem.run_bind, Sem.run_pure, Result.andThen_ok, h1, Array.getD_eq_getD_getElem?, h3, Option.getD_some] at h7 ⊢
        rw [h7]
        simp only [Result.andThen_ok, h1]
      · cases h
    · cases h
end Go.Proofs.Ytkpepieepdmjpaa.Sx
