/- A machine of abstract states over the model: code, loops, functions. No condition. -/
import Derived.Test.YtckijackbldkhaaSxW
import Derived.WalkKit
import Derived.ProofKit
import Derived.OpenShut
import Derived.ShutString
import Derived.ChangeOld
import Derived.Below
import Derived.SizedLaws
import Derived.Carry
import Derived.Deep.Slices
import Derived.ChangeArms
import Derived.Deep.MidRow
import Derived.Laws.Bits64
namespace Go.Proofs.Ytckijackbldkhaa.Sx
open Go
set_option linter.unusedVariables false
set_option linter.unusedSimpArgs false

/-- From where on the operations come one behind the other. -/
def tailN (ops : Array Oper) : Nat → Nat → Nat
  | 0, k => k
  | f + 1, k => bif Region.sinkB .any ops k && Region.chainB .any ops k then k else tailN ops f (k + 1)
def tmpsOf : List Operand → List Nat
  | [] => []
  | .tmp t :: r => t :: tmpsOf r
  | _ :: r => tmpsOf r
def callTmps : List Oper → List Nat
  | [] => []
  | o :: r => (match o.op with
    | .call c => (match c.callee with | .value f => tmpsOf (f :: c.args.toList) | _ => [])
    | _ => []) ++ callTmps r
/-- The slot from which what stands in t is had, by moves, loads and steps into structs; whether by a load. -/
def wayOf (all : List Oper) : Nat → Nat → List (Nat × Bool)
  | 0, _ => []
  | f + 1, t => match all.find? (fun o => match o.dst with | some d => Nat.beq d t | none => false) with
    | none => [(t, false)]
    | some o => match o.op with
      | .move (.tmp v) => wayOf all f v
      | .assign (.tmp v) => (t, false) :: wayOf all f v
      | .nilCheck (.tmp v) => wayOf all f v
      | .load _ (.tmp v) => (wayOf all f v).map fun p => (p.1, true)
      | .fieldAddr _ (.tmp v) _ => wayOf all f v
      | .indexAddr _ (.tmp v) _ => wayOf all f v
      | .slice _ (.tmp v) _ _ _ => wayOf all f v
      | _ => []
/-- What the cells hold that these lead to. -/
def derefs (h : List HB) : List CV → List CV
  | [] => []
  | c :: r => (match refC c with
    | some b => (match nth h b with | some (.cells _ cs) => cs | _ => [c])
    | none => []) ++ derefs h r
def rootsT (all : List Oper) (h : List HB) (fr : List (Nat × SV)) : List (Nat × Bool) → List CV
  | [] => []
  | (t, d) :: r => (let l := (match lk fr t with | some v => (match v with | .p x => cellsOfP x | .gd _ _ x => cellsOfP x | .tup l => flatten l) | none => []); match d with | true => derefs h l | false => l) ++ rootsT all h fr r
def ways (all : List Oper) : List Nat → List (Nat × Bool)
  | [] => []
  | t :: r => wayOf all 20 t ++ ways all r
def rowTmps : List Oper → List Nat
  | [] => []
  | o :: r => (match o.op with
    | .call c => (match c.callee, c.args.toList with | .builtin .append, .tmp t :: _ => [t] | .builtin .copy, .tmp t :: _ => [t] | _, _ => [])
    | .mapUpdate _ (.tmp t) _ _ => [t]
    | .buildSlice _ _ parts => tmpsOf (parts.toList.map (·.2))
    | _ => []) ++ rowTmps r
/-- Where stores go that may come in another order. -/
def stoTmps : List Oper → List Nat
  | [] => []
  | o :: r => (match o.op with
    | .store _ (.tmp t) _ => [t]
    | _ => []) ++ stoTmps r
def rowsOf (h : List HB) : List Nat → List Nat
  | [] => []
  | b :: r => match nth h b with
    | some (.cells _ _) => rowsOf h r
    | some .gone => rowsOf h r
    | some (.nest _ _ _ _ (some _)) => rowsOf h r
    | some _ => b :: rowsOf h r
    | none => rowsOf h r
def protH (T : List Nat) : Nat → List HB → List Nat
  | _, [] => []
  | k, it :: r => bif memN T k then protH T (k + 1) r else match it with
    | .gone => protH T (k + 1) r
    | _ => k :: protH T (k + 1) r
def protB (all : List Oper) (n : Nat) (s : SS) : List Nat := protH (reach s.hp 1000 (rootsT all s.hp s.fr (ways all (callTmps all))) [] ++ rowsOf s.hp (reach s.hp 1000 (rootsT all s.hp s.fr ((ways all (rowTmps all ++ stoTmps (all.take n))).map fun p => (p.1, false))) [])) 0 s.hp
def falses : Nat → List Bool
  | 0 => []
  | n + 1 => false :: falses n
theorem falses_eq : ∀ n, falses n = List.replicate n false
  | 0 => rfl
  | n + 1 => by rw [falses, falses_eq n]; rfl
/-! ### taking out and putting back, ahead of a region, where that is asked for -/
def nats : List Bool → Nat → List Nat
  | [], _ => []
  | true :: r, n => nats r (n + 1)
  | false :: r, n => n :: nats r 0
def unary : List Nat → List Bool
  | [] => []
  | n :: r => List.replicate n true ++ false :: unary r
/-- The number that stands in a slot, in a struct there, or in what it points to. -/
def hintVal (s : SS) (i c : Nat) : Option Int := match lk s.fr i with
  | some (.p (.c (.int _ n))) => some n
  | some (.p (.agg l)) => match nth l c with | some (.int _ n) => some n | _ => none
  | some (.p (.c (.ptr b off))) => match nth s.hp b with
    | some (.cells _ cs) => match nth cs (off + c) with | some (.int _ n) => some n | _ => none
    | _ => none
  | _ => none
def closeS (s : SS) (b : Nat) (K : SS → Prop) : Prop := match nth s.hp b with
  | some (.nest _ _ _ _ none) => K s
  | _ => match closeH none s.hp b with
    | some (ob, bs, h') => obl ob (K { s with fr := renF (keepN bs) s.fr, hp := h' })
    | none => False
def lessV (v : Int) : Nat → Int | 0 => v | m => v - (m : Int)
def openS (s : SS) (b i c m : Nat) (K : SS → Prop) : Prop := match hintVal s i c with
  | some v => match nth s.hp b with
    | some (.nest e bx fs xs none) => 0 ≤ lessV v m ∧ ∀ k : Nat, lessV v m = (k : Int) → k < xs.length ∧ ∀ x : FsT fs, xs.getD k (FsT.dft fs) = x →
        K { s with hp := s.hp.set b (.nest e bx fs xs (some (k, holeC bx fs x s.hp.length))) ++ holeR bx fs x s.hp.length }
    | _ => False
  | none => False
/-- 0, b: put back; 1, b, slot, cell, less: put back and take out. -/
def hookL : Nat → List Nat → SS → (SS → Prop) → Prop
  | n + 1, 0 :: b :: r, s, K => closeS s b (fun s' => hookL n r s' K)
  | n + 1, 1 :: b :: i :: c :: m :: r, s, K => closeS s b (fun s' => openS s' b i c m (fun s2 => hookL n r s2 K))
  | _, _, s, K => K s
def hook (Γ : Gam) (id : Nat) (s : SS) (K : SS → Prop) : Prop := match Γ (1000000 + id) with
  | none => K s
  | some (l, _) => hookL 8 (nats l 0) s K
theorem closeS_ok {N : Nat} {π : Pers} {ρ : Env} {s : SS} {a : Act} {w : World} (S : Sat π ρ s a w) {b : Nat} {K : SS → Prop} (h : closeS s b K) : ∃ ρ' s', Sat π ρ' s' a w ∧ Step N ρ s.hp w π ρ' s'.hp w π ∧ K s' := by
  unfold closeS at h
  split at h
  · exact ⟨ρ, s, S, Step.refl _ _ _ _ _, h⟩
  · split at h
    · rename_i ob bs h' hc
      obtain ⟨ho, hK⟩ := obl_out h
      obtain ⟨ρ', S', St⟩ := sat_close (N := N) (fun n e => by cases e) S hc ho
      exact ⟨ρ', _, S', St, hK⟩
    · exact h.elim
theorem openS_ok {N : Nat} {π : Pers} {ρ : Env} {s : SS} {a : Act} {w : World} (S : Sat π ρ s a w) {b i c m : Nat} {K : SS → Prop} (h : openS s b i c m K) : ∃ ρ' s', Sat π ρ' s' a w ∧ Step N ρ s.hp w π ρ' s'.hp w π ∧ K s' := by
  unfold openS at h
  split at h
  · rename_i v hv
    split at h
    · rename_i e bx fs xs hit
      obtain ⟨h0, h⟩ := h
      obtain ⟨hk, h⟩ := h (lessV v m).toNat (by omega)
      have h := h _ rfl
      obtain ⟨ρ', S', St⟩ := sat_open (N := N) (b := b) (i := (lessV v m).toNat) (ob := [(lessV v m).toNat < xs.length]) (h' := s.hp.set b (.nest e bx fs xs (some ((lessV v m).toNat, holeC bx fs (xs.getD (lessV v m).toNat (FsT.dft fs)) s.hp.length))) ++ holeR bx fs (xs.getD (lessV v m).toNat (FsT.dft fs)) s.hp.length) S (by unfold openH; rw [hit]) ⟨hk, trivial⟩
      exact ⟨ρ', _, S', St, h⟩
    · exact h.elim
  · exact h.elim
theorem hookL_ok {N : Nat} : ∀ (n : Nat) (l : List Nat) {π : Pers} {ρ : Env} {s : SS} {a : Act} {w : World} (S : Sat π ρ s a w) {K : SS → Prop} (h : hookL n l s K), ∃ ρ' s', Sat π ρ' s' a w ∧ Step N ρ s.hp w π ρ' s'.hp w π ∧ K s' := by
  intro n
  induction n with
  | zero => intro l π ρ s a w S K h; unfold hookL at h; exact ⟨ρ, s, S, Step.refl _ _ _ _ _, h⟩
  | succ n ih =>
    intro l π ρ s a w S K h
    unfold hookL at h
    split at h
    · rename_i heq
      cases heq
      obtain ⟨ρ1, s1, S1, St1, h1⟩ := closeS_ok (N := N) S h
      obtain ⟨ρ2, s2, S2, St2, h2⟩ := ih _ S1 h1
      exact ⟨ρ2, s2, S2, St1.trans St2, h2⟩
    · rename_i heq
      cases heq
      obtain ⟨ρ1, s1, S1, St1, h1⟩ := closeS_ok (N := N) S h
      obtain ⟨ρ2, s2, S2, St2, h2⟩ := openS_ok (N := N) S1 h1
      obtain ⟨ρ3, s3, S3, St3, h3⟩ := ih _ S2 h2
      exact ⟨ρ3, s3, S3, (St1.trans St2).trans St3, h3⟩
    · exact ⟨_, _, S, Step.refl _ _ _ _ _, h⟩
theorem hook_ok {N : Nat} {Γ : Gam} {id : Nat} {π : Pers} {ρ : Env} {s : SS} {a : Act} {w : World} (S : Sat π ρ s a w) {K : SS → Prop} (h : hook Γ id s K) : ∃ ρ' s', Sat π ρ' s' a w ∧ Step N ρ s.hp w π ρ' s'.hp w π ∧ K s' := by
  unfold hook at h
  split at h
  · exact ⟨ρ, s, S, Step.refl _ _ _ _ _, h⟩
  · exact hookL_ok _ _ S h
section
variable (P : Program) (Γ : Gam)
def sxR (ops : Array Oper) (draw : Bool) (s : SS) (Q : Exit → SS → Prop) : Prop :=
  bif draw then (bif P.follows .mixedOrders then (bif Nat.beq (headN ops.toList) ops.toList.length && Region.lexB .any ops then sxSt P ops.toList ops.toList s (Q .normal)
      else (bif Region.lexTailB .any ops (headN ops.toList) then sxSt P ops.toList (ops.toList.take (headN ops.toList)) s (fun s' => sxOps P Γ ops.toList (ops.toList.drop (headN ops.toList)) s' (Q .normal))
      else (bif Region.noSelect ops && (Nat.beq (tailN ops ops.toList.length 0) ops.toList.length || (Nat.blt (tailN ops ops.toList.length 0) ops.toList.length && Region.sinkB .any ops (tailN ops ops.toList.length 0) && Region.chainB .any ops (tailN ops ops.toList.length 0))) && allLt s.hp.length (protB ops.toList (tailN ops ops.toList.length 0) s)
        then sxDr P Γ ops.toList (protB ops.toList (tailN ops ops.toList.length 0) s) (tailN ops ops.toList.length 0) (tailN ops ops.toList.length 0) (falses ops.toList.length).toArray false s (fun s' => sxOps P Γ ops.toList (ops.toList.drop (tailN ops ops.toList.length 0)) s' (Q .normal)) else False))) else False)
      else sxOps P Γ ops.toList ops.toList s (Q .normal)
end
section
variable (P : Program) (Γ : Gam) (Λ : Lam)
def sx : Code → Nat → SS → (Exit → SS → Prop) → Prop
  | .skip, _, s, Q => Q .normal s
  | .label _, _, s, Q => Q .normal s
  | .region id ops draw, _, s, Q => hook Γ id s (fun s' => sxR P Γ ops draw s' Q)
  | .seq x y, k, s, Q => sx x k s (thenQ (fun s' => sx y k s' Q) Q)
  | .cond c x y, k, s, Q => match evL s [] c with
    | some (.c (.bool b)) => bif b then sx x k (knowO s c true) Q else sx y k (knowO s c false) Q
    | _ => False
  | .block id c, _, s, Q => sx c id s (blockQ id Q)
  | .loop _, k, s, Q => Λ k s Q
  | .exit id, _, s, Q => Q (.exit id) s
  | .ret, _, s, Q => Q .ret s
  | _, _, _, _ => False
def loopsOf : Code → Nat → List (Nat × Code)
  | .seq x y, k => loopsOf x k ++ loopsOf y k
  | .cond _ x y, k => loopsOf x k ++ loopsOf y k
  | .block id c, _ => loopsOf c id
  | .loop c, k => [(k, c)]
  | _, _ => []
end
section
variable {N : Nat} {P : Program} {Γ : Gam} {Λ : Lam}
def LOK (N : Nat) (P : Program) (Λ : Lam) (l : List (Nat × Code)) : Prop := ∀ k c, (k, c) ∈ l → ∀ s Q, Λ k s Q → W N P (.loop c) s Q
theorem satKnowO {π : Pers} {ρ : Env} {s : SS} {a : Act} {w : World} (S : Sat π ρ s a w) {c : Operand} {b : Bool} (h : a.eval c = .bool b) : Sat π ρ (knowO s c b) a w := by
  cases c with
  | tmp j =>
    refine sat_know S ?_
    simp only [Act.eval, Array.getD_eq_getD_getElem?] at h
    cases hh : a.tmps[j]? with
    | none => rw [hh] at h; simp [undef] at h
    | some z => rw [hh] at h; simp at h; rw [h]
  | const v => exact S
  | global g => exact S
  | func f => exact S
theorem knowO_hp (s : SS) (c : Operand) (b : Bool) : (knowO s c b).hp = s.hp := by cases c <;> rfl
theorem sxR_ok (hΓ : GOK P Γ) (id : Nat) (ops : Array Oper) (draw : Bool) (s : SS) (Q : Exit → SS → Prop) (h : sxR P Γ ops draw s Q) : W N P (.region id ops draw) s Q := by
    intro π ρ a w S
    unfold sxR at h
    cases draw with
    | true =>
      simp only [cond_true] at h
      have S1 : Sat π ρ s a { w with drawn := w.drawn + 1 } := ⟨⟨fun k it hk => hb_keep (w := w) (w' := { w with drawn := w.drawn + 1 }) (fun _ _ h => h) (fun _ _ h => h) rfl (fun _ _ => rfl) it (S.hs.items k it hk), S.hs.lt, S.hs.inj, S.hs.apart, S.hs.pers, S.hs.out⟩, S.fs, S.df, S.nt, S.on⟩
      have St1 : Step N ρ s.hp w π ρ s.hp { w with drawn := w.drawn + 1 } π := ⟨rfl, rfl, rfl, Nat.le_refl _, fun _ _ _ => rfl, fun k g hk hr => .inl ⟨k, hk, hr⟩, fun _ _ h => h, fun _ _ h => .inl h, fun k it κ _ hk hκ => ⟨rfl, it, hk, hκ⟩⟩
      cases hf : P.follows .mixedOrders with
      | false => rw [hf] at h; exact h.elim
      | true =>
        rw [hf] at h
        simp only [cond_true] at h
        cases hq : (Nat.beq (headN ops.toList) ops.toList.length && Region.lexB .any ops) with
        | true =>
          rw [hq] at h
          simp only [cond_true] at h
          refine wp_region_still hf (by simp only [Bool.and_eq_true] at hq; exact hq.2) ?_
          have := sxSt_ok (P := P) (all := ops.toList) (K := Q .normal) (R := fun a' => ∃ π' ρ' s', Sat π' ρ' s' a' { w with drawn := w.drawn + 1 } ∧ Step N ρ s.hp w π ρ' s'.hp { w with drawn := w.drawn + 1 } π' ∧ Q .normal s') (π := π) (ρ := ρ) (h0 := s.hp) (w := { w with drawn := w.drawn + 1 })
            (fun s' a' S' hh hk => ⟨π, ρ, s', S', by rw [hh]; exact St1, hk⟩) ops.toList s a S1 rfl h
          simpa using this
        | false =>
          rw [hq] at h
          simp only [cond_false] at h
          cases hq2 : Region.lexTailB .any ops (headN ops.toList) with
          | false =>
            rw [hq2] at h
            simp only [cond_false] at h
            generalize hn : tailN ops ops.toList.length 0 = n at h
            generalize hB : protB ops.toList n s = B at h
            cases hq3 : (Region.noSelect ops && (Nat.beq n ops.toList.length || (Nat.blt n ops.toList.length && Region.sinkB .any ops n && Region.chainB .any ops n)) && allLt s.hp.length B) with
            | false => rw [hq3] at h; exact h.elim
            | true =>
              rw [hq3] at h
              simp only [cond_true] at h
              simp only [Bool.and_eq_true, Bool.or_eq_true] at hq3
              obtain ⟨⟨hsel, hnn⟩, hBl⟩ := hq3
              have htoa : ops.toList.toArray = ops := by simp
              have hsz : ops.toList.length = ops.size := by simp
              rw [falses_eq, hsz] at h
              have hrep : (List.replicate ops.size false).toArray = Array.replicate ops.size false := by simp
              rw [hrep] at h
              have hnle : n ≤ ops.size := by
                rcases hnn with h1 | h1
                · rw [beq_eq h1, hsz]; exact Nat.le_refl _
                · have := h1.1.1; rw [hsz] at this; have := (by simpa [Nat.blt_eq] using this : n < ops.size); omega
              have htl : ∀ (i : Nat), i < n → ∀ (listed : Array Bool), HeadInv .any ops.toList.toArray n listed → listed.getD i true = false → ∀ t, n ≤ t → t ∉ Region.ready .any ops.toList.toArray listed := by
                rw [htoa]
                intro i hi listed inv hun t ht
                rcases hnn with h1 | h1
                · intro hr
                  obtain ⟨_, oi, hoi, _⟩ := mem_ready.1 hr
                  have := (Array.getElem?_eq_some_iff.1 hoi).1
                  have := beq_eq h1
                  omega
                · obtain ⟨⟨h2, h3⟩, h4⟩ := h1
                  rw [hsz] at h2
                  exact tail_waits h3 h4 (by simpa [Nat.blt_eq] using h2) inv _ i rfl hi hun t ht
              have inv0 : HeadInv .any ops.toList.toArray n (Array.replicate ops.size false) := by
                rw [htoa]
                exact ⟨by simp, fun j oj _ hl => (by rw [getD_replicate_false] at hl; cases hl), fun t _ ht => getD_in (by simpa using ht) (getD_replicate_false _ _)⟩
              have HL := sxDr_ok (N := N) (B := B) (π0 := π) (ρ0 := ρ) (w0 := { w with drawn := w.drawn + 1 }) (πs := π) (ρs := ρ) (hs := s.hp) (ws := w) (Q := fun e a' w' => e = .normal ∧ ∃ π' ρ' s', Sat π' ρ' s' a' w' ∧ Step N ρ s.hp w π ρ' s'.hp w' π' ∧ Q e s')
                (K := fun s' => sxOps P Γ ops.toList (ops.toList.drop n) s' (Q .normal)) hΓ (by rw [htoa]; exact hsel) htl (fun c a w hq => (by cases hq.1))
                (fun s' π' ρ' a' w' S' St' hk => sxOps_ok (N := N) hΓ (all := ops.toList) (K := Q .normal) (Q := fun e a' w' => e = .normal ∧ ∃ π' ρ' s', Sat π' ρ' s' a' w' ∧ Step N ρ s.hp w π ρ' s'.hp w' π' ∧ Q e s')
                  (fun π2 ρ2 s2 a2 w2 S2 St2 hk2 => ⟨rfl, π2, ρ2, s2, S2, St2, hk2⟩) _ s' π' ρ' a' w' S' St' hk)
                n _ false s π ρ a _ inv0 ⟨S1, fun _ _ => rfl, fun _ _ h => h, fun _ => rfl, fun k hk => ⟨rfl, by
                  obtain ⟨i, hi⟩ := List.mem_iff_getElem?.1 (memN_iff.1 hk)
                  exact allLt_ok hBl i k hi⟩⟩ St1 h
              have HA := wpHL_any (g := ops.size - n) (fun listed a' w' hL => by
                have := wpAny_of_seq (md := .any) (P := P) (ops.toList.drop n) n listed a' w' (fun j => by simp [List.getElem?_drop]) (by rw [List.length_drop]; exact hL.1) hL.2
                rw [List.length_drop, hsz] at this
                exact this) n _ a _ HL
              rw [show n + (ops.size - n) = ops.size by omega, htoa] at HA
              exact wp_mono (wp_region_any hf HA) (fun e a' w' hq => hq.2)
          | true =>
            rw [hq2] at h
            simp only [cond_true] at h
            have H := wp_region_still_tail (P := P) (id := id) (l := ops.toList) (a := a) (w := w) (Q := fun e a' w' => ∃ π' ρ' s', Sat π' ρ' s' a' w' ∧ Step N ρ s.hp w π ρ' s'.hp w' π' ∧ Q e s') (headN ops.toList) hf (by simpa using hq2)
              (sxSt_ok (P := P) (all := ops.toList) (K := fun s' => sxOps P Γ ops.toList (ops.toList.drop (headN ops.toList)) s' (Q .normal)) (π := π) (ρ := ρ) (h0 := s.hp) (w := { w with drawn := w.drawn + 1 })
                (fun s' a' S' hh hk => sxOps_ok (N := N) hΓ (all := ops.toList) (K := Q .normal) (Q := fun e a' w' => ∃ π' ρ' s', Sat π' ρ' s' a' w' ∧ Step N ρ s.hp w π ρ' s'.hp w' π' ∧ Q e s')
                  (fun π' ρ' s2 a2 w2 S2 St2 hk2 => ⟨π', ρ', s2, S2, St2, hk2⟩) _ s' π ρ a' _ S' (by rw [hh]; exact St1) hk) _ s a S1 rfl h)
            simpa using H
    | false =>
      refine wp_region_list ?_
      have := sxOps_ok (N := N) hΓ (all := ops.toList) (K := Q .normal) (Q := fun e a' w' => ∃ π' ρ' s', Sat π' ρ' s' a' w' ∧ Step N ρ s.hp w π ρ' s'.hp w' π' ∧ Q e s')
        (fun π' ρ' s' a' w' S' St hk => ⟨π', ρ', s', S', St, hk⟩) ops.toList s π ρ a w S (Step.refl _ _ _ _ _) h
      simpa using this
theorem sx_ok (hΓ : GOK P Γ) : ∀ (c : Code) (k : Nat) (s : SS) (Q : Exit → SS → Prop), LOK N P Λ (loopsOf c k) → sx P Γ Λ c k s Q → W N P c s Q
  | .skip, _, s, Q, _, h => fun π ρ a w S => wp_skip ⟨π, ρ, s, S, Step.refl _ _ _ _ _, h⟩
  | .label _, _, s, Q, _, h => fun π ρ a w S => wp_label ⟨π, ρ, s, S, Step.refl _ _ _ _ _, h⟩
  | .exit _, _, s, Q, _, h => fun π ρ a w S => wp_exit ⟨π, ρ, s, S, Step.refl _ _ _ _ _, h⟩
  | .ret, _, s, Q, _, h => fun π ρ a w S => wp_ret ⟨π, ρ, s, S, Step.refl _ _ _ _ _, h⟩
  | .region id ops draw, _, s, Q, _, h => by
    intro π ρ a w S
    simp only [sx] at h
    obtain ⟨ρ1, s1, S1, St1, h1⟩ := hook_ok (N := N) S h
    have hx := sxR_ok (N := N) hΓ id ops draw s1 Q h1 π ρ1 a w S1
    refine wp_mono hx ?_
    rintro e a' w' ⟨π', ρ', s', S', St, hq⟩
    exact ⟨π', ρ', s', S', St1.trans St, hq⟩
  | .seq x y, k, s, Q, hl, h => by
    intro π ρ a w S
    simp only [sx] at h
    have hx := sx_ok hΓ x k s _ (fun k' c hc => hl k' c (by simp only [loopsOf, List.mem_append]; exact .inl hc)) h π ρ a w S
    refine wp_seq (wp_mono hx ?_)
    rintro e a' w' ⟨π', ρ', s', S', St, hq⟩
    cases e with
    | normal =>
      have hy := sx_ok hΓ y k s' Q (fun k' c hc => hl k' c (by simp only [loopsOf, List.mem_append]; exact .inr hc)) hq π' ρ' a' w' S'
      refine wp_mono hy ?_
      rintro e a2 w2 ⟨π2, ρ2, s2, S2, St2, hq2⟩
      exact ⟨π2, ρ2, s2, S2, St.trans St2, hq2⟩
    | exit id => exact ⟨π', ρ', s', S', St, hq⟩
    | goto l => exact ⟨π', ρ', s', S', St, hq⟩
    | ret => exact ⟨π', ρ', s', S', St, hq⟩
    | panic c => exact ⟨π', ρ', s', S', St, hq⟩
    | outgrown => exact ⟨π', ρ', s', S', St, hq⟩
  | .cond c x y, k, s, Q, hl, h => by
    intro π ρ a w S
    simp only [sx] at h
    split at h
    · rename_i b hc
      have hv := evL_ok S (gh_nil _) hc
      simp only [DenP, DenC] at hv
      refine wp_cond hv ?_
      cases b with
      | true =>
        have := sx_ok hΓ x k _ Q (fun k' c hc => hl k' c (by simp only [loopsOf, List.mem_append]; exact .inl hc)) h π ρ a w (satKnowO S hv)
        rw [knowO_hp] at this
        exact this
      | false =>
        have := sx_ok hΓ y k _ Q (fun k' c hc => hl k' c (by simp only [loopsOf, List.mem_append]; exact .inr hc)) h π ρ a w (satKnowO S hv)
        rw [knowO_hp] at this
        exact this
    · exact h.elim
  | .block id c, _, s, Q, hl, h => by
    intro π ρ a w S
    simp only [sx] at h
    have hx := sx_ok hΓ c id s _ hl h π ρ a w S
    refine wp_block (wp_mono hx ?_)
    rintro e a' w' ⟨π', ρ', s', S', St, hq⟩
    cases e with
    | exit id' =>
      simp only [blockQ] at hq
      simp only [Exit.inBlock]
      by_cases he : id' = id
      · subst he
        rw [if_pos rfl]
        rw [Nat.beq_refl] at hq
        exact ⟨π', ρ', s', S', St, hq⟩
      · rw [if_neg he]
        have : Nat.beq id' id = false := by cases hb : Nat.beq id' id with | false => rfl | true => exact absurd (beq_eq hb) he
        rw [this] at hq
        exact ⟨π', ρ', s', S', St, hq⟩
    | normal => exact ⟨π', ρ', s', S', St, hq⟩
    | goto l => exact ⟨π', ρ', s', S', St, hq⟩
    | ret => exact ⟨π', ρ', s', S', St, hq⟩
    | panic c => exact ⟨π', ρ', s', S', St, hq⟩
    | outgrown => exact ⟨π', ρ', s', S', St, hq⟩
  | .loop c, k, s, Q, hl, h => hl k c (by simp [loopsOf]) s Q h
  | .rangeFunc .., _, _, _, _, h => h.elim
  | .scope _, _, _, _, _, h => h.elim
  | .goto _, _, _, _, _, h => h.elim
  | .refuse _, _, _, _, _, h => h.elim
end

/-! ### what a state fits -/
def cellsOfS : SV → List CV | .p x => cellsOfP x | .gd _ _ x => cellsOfP x | .tup l => flatten l
def rootsF (fr : List (Nat × SV)) : List (Nat × SV) → List CV
  | [] => []
  | (i, _) :: r => (match lk fr i with | some v => cellsOfS v | none => []) ++ rootsF fr r
def rootsH : List HB → List CV
  | [] => []
  | .cells _ cs :: r => cs ++ rootsH r
  | _ :: r => rootsH r
def names (N : Nat) (s : SS) (l : List CV) : List Nat := reach s.hp 1000 (rootsH (s.hp.take N) ++ l) (rangeN N)
def fitsF (fr : List (Nat × SV)) : List (Nat × SV) → Prop
  | [] => True
  | (i, v) :: r => lk fr i = some v ∧ fitsF fr r
def okN (N : Nat) (n : Nat) (m : List Nat) : Bool := nodupN m && allLt n m && isPre N m
/-- The state s, but for what t doesn't speak of, is t. -/
def Fits (N : Nat) (s t : SS) : Prop :=
  let m := names N s (rootsF s.fr t.fr)
  (okN N s.hp.length m = true ∧ once t.fr = true ∧ s.nt = t.nt) ∧ fitsF (renF (posOf m) s.fr) t.fr ∧ subH s.hp m m = t.hp
theorem fitsF_get {fr : List (Nat × SV)} : ∀ {t : List (Nat × SV)}, fitsF fr t → ∀ i v, lk t i = some v → lk fr i = some v
  | [], _, i, v, h => by simp [lk] at h
  | (j, u) :: r, hf, i, v, h => by
    simp only [lk] at h
    cases hj : Nat.beq j i with
    | true => rw [hj] at h; simp only [cond_true, Option.some.injEq] at h; subst h; rw [← beq_eq hj]; exact hf.1
    | false => rw [hj] at h; exact fitsF_get hf.2 i v h
theorem fits_ok {N : Nat} {s t : SS} (h : Fits N s t) {π : Pers} {ρ : Env} {a : Act} {w : World} (S : Sat π ρ s a w) : ∃ ρ', Sat π ρ' t a w ∧ ∀ {ρ2 h2 w2 π2}, Step N ρ2 h2 w2 π2 ρ s.hp w π → Step N ρ2 h2 w2 π2 ρ' t.hp w π := by
  unfold Fits at h
  dsimp only at h
  generalize names N s (rootsF s.fr t.fr) = m at h
  obtain ⟨⟨hm, ho, hnt⟩, hf, hh⟩ := h
  simp only [okN, Bool.and_eq_true] at hm
  have S1 := sat_restrict S hm.1.1 hm.1.2
  refine ⟨envOf ρ m, ⟨?_, ?_, S.df, ?_, ho⟩, ?_⟩
  · have := S1.hs; unfold restrict at this; rw [hh] at this; exact this
  · intro i v hi
    exact S1.fs i v (fitsF_get hf i v hi)
  · rw [← hnt]; exact S.nt
  · intro ρ2 h2 w2 π2 St
    have hlen := subH_len (h := s.hp) (m := m) m
    refine ⟨St.os, St.tape, St.output, St.size, St.block, ?_, St.pmono, St.pfresh, ?_⟩
    · intro k g hk hr
      obtain ⟨b, hb, hr'⟩ := own_env hr
      exact St.fresh b g (allLt_ok hm.1.2 k b hb) hr'
    · intro k it κ hk hit hκ
      obtain ⟨e1, it', e2, k2⟩ := St.keep k it κ hk hit hκ
      have hmk := isPre_ok hm.2 k hk
      have hlt : k < (subH s.hp m m).length := by rw [hlen]; exact (List.getElem?_eq_some_iff.1 hmk).1
      have hget := List.getElem?_eq_getElem hlt
      obtain ⟨b, hb, he⟩ := subH_get hget
      rw [hmk] at hb
      cases hb
      refine ⟨by rw [← e1]; simp [envOf, hmk], renH (posOf m) it', ?_, by rw [knd_ren]; exact k2⟩
      rw [← hh, hget, he, e2]
      rfl

/-! ### functions -/
def argsF : Nat → List PV → List (Nat × SV)
  | _, [] => []
  | i, p :: r => (i, .p p) :: argsF (i + 1) r
def resOf (P : Program) (s : SS) : List ResultVar → Option (List PV)
  | [] => some []
  | .tmp t :: r => match lk s.fr t, resOf P s r with
    | some (.p x), some xs => some (x :: xs)
    | _, _ => none
  | .cell a t :: r => match lk s.fr a, resOf P s r with
    | some (.p p), some xs => match loadC P s t p with
      | some ([], _, x) => some (x :: xs)
      | _ => none
    | _, _ => none
def tupOf : List PV → SV | [x] => .p x | l => .tup l
/-- At the end of a function: what it hands back, and the blocks that are known behind it. -/
def retQ (P : Program) (rs : List ResultVar) (N : Nat) (Q : SV → List HB → Prop) : Exit → SS → Prop
  | .normal, s | .ret, s => match resOf P s rs with
    | some l => let m := names N s (flatten l)
      bif okN N s.hp.length m then Q (renS (posOf m) (tupOf l)) (subH s.hp m m) else False
    | none => False
  | _, _ => False
theorem argsF_lk : ∀ {l : List PV} {k i : Nat} {v : SV}, lk (argsF k l) i = some v → ∃ p, l[i - k]? = some p ∧ v = .p p ∧ k ≤ i
  | [], k, i, v, h => by simp [argsF, lk] at h
  | p :: r, k, i, v, h => by
    simp only [argsF, lk] at h
    cases hj : Nat.beq k i with
    | true => rw [hj] at h; simp only [cond_true, Option.some.injEq] at h; have := beq_eq hj; subst this; exact ⟨p, by simp, h.symm, Nat.le_refl _⟩
    | false =>
      rw [hj] at h
      obtain ⟨q, h1, h2, h3⟩ := argsF_lk h
      exact ⟨q, by rw [show i - k = (i - (k + 1)) + 1 by omega, List.getElem?_cons_succ]; exact h1, h2, by omega⟩
theorem argsF_once : ∀ {l : List PV} {k : Nat}, once (argsF k l) = true
  | [], _ => rfl
  | p :: r, k => by
    simp only [argsF, once, Bool.and_eq_true]
    refine ⟨?_, argsF_once⟩
    cases hl : lk (argsF (k + 1) r) k with
    | none => rfl
    | some x => obtain ⟨_, _, _, h3⟩ := argsF_lk hl; omega
def resM (T : Array Value) : ResultVar → Sem Value
  | .tmp t => pure (T.getD t undef)
  | .cell a t => do loadVar t (← asAddr (T.getD a undef))
theorem load_as {P : Program} {t : TypeId} {v u : Value} {w w' : World} (h : (Instr.loadAt t v).run P w = .ok u w') : (do loadVar t (← asAddr v) : Sem Value).run P w = .ok u w' := by
  unfold Instr.loadAt at h
  cases v with
  | pointer A =>
    cases A with
    | none => simp [Instr.sureAddr, stuck] at h
    | some A => exact h
  | _ => simp [Instr.sureAddr, stuck] at h
theorem resOf_ok {P : Program} {π : Pers} {ρ : Env} {s : SS} {a : Act} {w : World} (S : Sat π ρ s a w) : ∀ (rs : List ResultVar) (l : List PV), resOf P s rs = some l → ∃ us : List Value, (rs.mapM (resM a.tmps)).run P w = .ok us w ∧ All2 (DenP π ρ) l us
  | [], l, h => by simp only [resOf, Option.some.injEq] at h; subst h; exact ⟨[], by simp, trivial⟩
  | .tmp t :: r, l, h => by
    simp only [resOf] at h
    split at h
    · rename_i x xs hx hxs
      cases h
      obtain ⟨us, h1, h2⟩ := resOf_ok S r xs hxs
      obtain ⟨v, h3, h4⟩ := S.fs t _ hx
      refine ⟨v :: us, ?_, h4, h2⟩
      simp only [List.mapM_cons, resM, Sem.run_bind, Sem.run_pure, Result.andThen_ok, h1, Array.getD_eq_getD_getElem?, h3, Option.getD_some]
    · cases h
  | .cell ad t :: r, l, h => by
    simp only [resOf] at h
    split at h
    · rename_i p xs hx hxs
      split at h
      · rename_i fc x hl
        cases h
        obtain ⟨us, h1, h2⟩ := resOf_ok S r xs hxs
        obtain ⟨v, h3, h4⟩ := S.fs ad _ hx
        obtain ⟨_, u, h5, h6⟩ := loadC_ok (P := P) S h4 hl trivial
        have h5 := h5 w (Alike.refl _ _ _ _)
        refine ⟨u :: us, ?_, h6, h2⟩
        have h7 := load_as h5
        simp only [List.mapM_cons, resM, Sem.run_bind, Sem.run_pure, Result.andThen_ok, h1, Array.getD_eq_getD_getElem?, h3, Option.getD_some] at h7 ⊢
        rw [h7]
        simp only [Result.andThen_ok, h1]
      · cases h
    · cases h
end Go.Proofs.Ytckijackbldkhaa.Sx
namespace Go.Proofs.Ytckijackbldkhaa.Sx
open Go
set_option linter.unusedVariables false
set_option linter.unusedSimpArgs false

theorem results_ok {P : Program} {π : Pers} {ρ : Env} {fn : Func} {T : Array Value} {w : World} {l : List PV} {us : List Value} (hr : (fn.results.toList.mapM (resM T)).run P w = .ok us w) (h : All2 (DenP π ρ) l us) : ∃ v, (results fn T).run P w = .ok v w ∧ DenS π ρ (tupOf l) v := by
  have e : results fn T = (do let vs ← fn.results.mapM (resM T); pure (if h : vs.size = 1 then vs[0] else .tuple vs)) := by
    unfold results
    congr 2
  rw [e]
  simp only [Array.mapM_eq_mapM_toList]
  simp only [Sem.run_bind, Sem.run_map, hr, Result.andThen_ok, Sem.run_pure]
  match l, us, h with
  | [], [], _ => exact ⟨_, rfl, [], rfl, trivial⟩
  | [x], [u], h => exact ⟨_, rfl, h.1⟩
  | x :: y :: r, u :: v :: us, h => exact ⟨_, rfl, u :: v :: us, by simp, h⟩
variable {P : Program} {Γ : Gam} {Λ : Lam}
/-- A function does what its body does. -/
theorem spec_of (hΓ : GOK P Γ) {f : FuncId} {fn : Func} {c : Code} (hf : P.funcs[f]? = some fn) (hb : fn.body = some c) {args : List PV} {h : List HB} {Q : SV → List HB → Prop} (hn : Nat.ble args.length fn.ntmps = true) (hl : LOK h.length P Λ (loopsOf c 0))
    (hx : sx P Γ Λ c 0 { nt := fn.ntmps, fr := argsF 0 args, hp := h } (retQ P fn.results.toList h.length Q)) : FSpec P f args h Q := by
  intro π ρ w vs hs ha
  refine calls_of_wp hf hb ?_
  have hlen := all2_len ha
  have hle := Nat.le_of_ble_eq_true hn
  have S : Sat π ρ { nt := fn.ntmps, fr := argsF 0 args, hp := h } { tmps := vs.toArray ++ Array.replicate (fn.ntmps - vs.toArray.size) undef, defers := [] } w := by
    refine ⟨hs, ?_, rfl, ?_, argsF_once⟩
    · intro i v hi
      obtain ⟨p, h1, rfl, _⟩ := argsF_lk hi
      rw [Nat.sub_zero] at h1
      obtain ⟨u, hu, hd⟩ := all2_get ha i p h1
      refine ⟨u, ?_, hd⟩
      have hlt := (List.getElem?_eq_some_iff.1 hu).1
      simp only
      rw [Array.getElem?_append_left (by simpa using hlt)]
      simpa using hu
    · simp; omega
  refine wp_mono (sx_ok (N := h.length) hΓ c 0 _ _ hl hx π ρ _ w S) ?_
  rintro e a' w' ⟨π', ρ', s', S', St, hq⟩
  have fin : (match resOf P s' fn.results.toList with
    | some l => let m := names h.length s' (flatten l)
      bif okN h.length s'.hp.length m then Q (renS (posOf m) (tupOf l)) (subH s'.hp m m) else False
    | none => False) → a'.defers = [] ∧ ∃ v, (results fn a'.tmps).run P w' = .ok v w' ∧ (fun e w' => ∃ v π' ρ' r h', e = Ending.returned v ∧ DenS π' ρ' r v ∧ HSat π' ρ' h' w' ∧ Step h.length ρ h w π ρ' h' w' π' ∧ Q r h') (.returned v) w' := by
    intro hq
    split at hq
    · rename_i l hres
      dsimp only at hq
      generalize names h.length s' (flatten l) = m at hq
      cases hm : okN h.length s'.hp.length m with
      | false => rw [hm] at hq; exact hq.elim
      | true =>
        rw [hm] at hq
        simp only [cond_true] at hq
        obtain ⟨us, h1, h2⟩ := resOf_ok S' _ l hres
        obtain ⟨v, h3, h4⟩ := results_ok (P := P) (w := w') h1 h2
        refine ⟨S'.df, v, h3, v, π', envOf ρ' m, _, _, rfl, dens_ren (ren_env ρ' m) h4, ?_, ?_, hq⟩
        · simp only [okN, Bool.and_eq_true] at hm
          exact hsat_sub S'.hs hm.1.1 hm.1.2
        · simp only [okN, Bool.and_eq_true] at hm
          have hlen := subH_len (h := s'.hp) (m := m) m
          refine ⟨St.os, St.tape, St.output, St.size, St.block, ?_, St.pmono, St.pfresh, ?_⟩
          · intro k g hk hr
            obtain ⟨b, hb, hr'⟩ := own_env hr
            exact St.fresh b g (allLt_ok hm.1.2 k b hb) hr'
          · intro k it κ hk hit hκ
            obtain ⟨e1, it', e2, k2⟩ := St.keep k it κ hk hit hκ
            have hmk := isPre_ok hm.2 k hk
            have hlt : k < (subH s'.hp m m).length := by rw [hlen]; exact (List.getElem?_eq_some_iff.1 hmk).1
            have hget := List.getElem?_eq_getElem hlt
            obtain ⟨b, hb, he⟩ := subH_get hget
            rw [hmk] at hb
            cases hb
            refine ⟨by rw [← e1]; simp [envOf, hmk], renH (posOf m) it', ?_, by rw [knd_ren]; exact k2⟩
            rw [hget, he, e2]
            rfl
    · exact hq.elim
  cases e with
  | normal => exact fin hq
  | ret => exact fin hq
  | exit id => exact hq.elim
  | goto l => exact hq.elim
  | panic c => exact hq.elim
  | outgrown => exact hq.elim

/-- A loop: at every round's head the state is 'st x' for some x of which I holds, and μ goes down. -/
theorem W_loop {α : Type} {N : Nat} {body : Code} (st : α → SS) (I : α → Prop) (μ : α → Nat) {Q : Exit → SS → Prop}
    (hr : ∀ x, I x → W N P body (st x) (thenQ (fun s' => ∃ y, I y ∧ μ y < μ x ∧ Fits N s' (st y)) Q)) : ∀ x, I x → W N P (.loop body) (st x) Q := by
  intro x hx π ρ a w S
  refine wp_loop_ghost (fun n a' w' => ∃ y π' ρ', I y ∧ μ y = n ∧ Sat π' ρ' (st y) a' w' ∧ Step N ρ (st x).hp w π ρ' (st y).hp w' π') (μ x) ⟨x, π, ρ, hx, rfl, S, Step.refl _ _ _ _ _⟩ ?_
  rintro n a1 w1 ⟨y, π1, ρ1, hy, rfl, S1, St1⟩
  refine wp_mono (hr y hy π1 ρ1 a1 w1 S1) ?_
  rintro e a2 w2 ⟨π2, ρ2, s2, S2, St2, hq⟩
  cases e with
  | normal =>
    obtain ⟨z, hz, hlt, hfit⟩ := hq
    obtain ⟨ρ3, S3, hst⟩ := fits_ok hfit S2
    exact ⟨μ z, hlt, z, π2, ρ3, hz, rfl, S3, hst (St1.trans St2)⟩
  | exit id => exact ⟨π2, ρ2, s2, S2, St1.trans St2, hq⟩
  | goto l => exact ⟨π2, ρ2, s2, S2, St1.trans St2, hq⟩
  | ret => exact ⟨π2, ρ2, s2, S2, St1.trans St2, hq⟩
  | panic c => exact ⟨π2, ρ2, s2, S2, St1.trans St2, hq⟩
  | outgrown => exact ⟨π2, ρ2, s2, S2, St1.trans St2, hq⟩
/-- A state of which less is said. -/
theorem W_fits {N : Nat} {c : Code} {s t : SS} {Q : Exit → SS → Prop} (hf : Fits N s t) (h : W N P c t Q) : W N P c s Q := by
  intro π ρ a w S
  obtain ⟨ρ', S', hst⟩ := fits_ok hf S
  refine wp_mono (h π ρ' a w S') ?_
  rintro e a2 w2 ⟨π2, ρ2, s2, S2, St2, hq⟩
  exact ⟨π2, ρ2, s2, S2, (hst (Step.refl N ρ s.hp w π)).trans St2, hq⟩
end Go.Proofs.Ytckijackbldkhaa.Sx
namespace Go.Proofs.Ytckijackbldkhaa.Sx
open Go
set_option linter.unusedVariables false
set_option linter.unusedSimpArgs false

/-! ### a nil slice is a row of one's own, without elements -/
theorem hsat_nil {π : Pers} {ρ : Env} {h : List HB} {w : World} (H : HSat π ρ h w) (e : TypeId) (t : Ty) : HSat π ρ (h ++ [.row e t ([] : List t.T)]) w := by
  have := hsat_new (w' := w) H (.row e t ([] : List t.T)) none (Nat.le_refl _) (fun _ _ => rfl) (fun g h => h.elim) (.inl ⟨updE_same _ _ _, rfl⟩)
  have e1 : updE ρ h.length none = ρ := by
    funext k
    by_cases hk : k = h.length
    · subst hk; rw [updE_same, H.out _ (Nat.le_refl _)]
    · exact updE_other ρ none hk
  rw [e1] at this
  exact this
theorem step_nil {N : Nat} {ρ ρ' : Env} {h h' : List HB} {w w' : World} {π π' : Pers} (St : Step N ρ h w π ρ' h' w' π') (H : HSat π' ρ' h' w') (it : HB) : Step N ρ h w π ρ' (h' ++ [it]) w' π' := by
  refine ⟨St.os, St.tape, St.output, St.size, St.block, ?_, St.pmono, St.pfresh, ?_⟩
  · intro k g hk hr
    by_cases hkl : k < h'.length
    · exact St.fresh k g hkl hr
    · rw [H.out k (by omega)] at hr; exact hr.elim
  · intro k x κ hk hit hκ
    obtain ⟨e1, it', e2, k2⟩ := St.keep k x κ hk hit hκ
    refine ⟨e1, it', ?_, k2⟩
    rw [List.getElem?_append_left (List.getElem?_eq_some_iff.1 e2).1]
    exact e2
def ownV (t : Ty) (n : Nat) : CV → CV | .nils => .view t n 0 0 | c => c
theorem den_ownV {π : Pers} {ρ : Env} {t : Ty} {n : Nat} {c : CV} {v : Value} (h : DenC π ρ c v) : DenC π ρ (ownV t n c) v := by
  cases c with
  | nils => exact .inl ⟨rfl, none, h⟩
  | _ => exact h
def ownP (t : Ty) (n : Nat) : PV → PV | .c c => .c (ownV t n c) | p => p
theorem denp_ownP {π : Pers} {ρ : Env} {t : Ty} {n : Nat} {c : PV} {v : Value} (h : DenP π ρ c v) : DenP π ρ (ownP t n c) v := by
  cases c with
  | c x => exact den_ownV h
  | agg l => exact h
  | clo f l => exact h
def ownAt {α : Type} (f : α → α) : Nat → List α → List α
  | _, [] => []
  | 0, a :: r => f a :: r
  | i + 1, a :: r => a :: ownAt f i r
theorem all2_ownAt {α β : Type} {R : α → β → Prop} {f : α → α} (hf : ∀ a b, R a b → R (f a) b) : ∀ {l : List α} {m : List β} (i : Nat), All2 R l m → All2 R (ownAt f i l) m
  | [], [], i, _ => by cases i <;> trivial
  | _ :: _, _ :: _, 0, h => ⟨hf _ _ h.1, h.2⟩
  | _ :: _, _ :: _, i + 1, h => ⟨h.1, all2_ownAt hf i h.2⟩
  | [], _ :: _, _, h => h.elim
  | _ :: _, [], _, h => h.elim
theorem ownAt_len {α : Type} {f : α → α} : ∀ (i : Nat) (l : List α), (ownAt f i l).length = l.length
  | i, [] => by cases i <;> rfl
  | 0, _ :: _ => rfl
  | i + 1, _ :: r => by simp only [ownAt, List.length_cons, ownAt_len i r]
def ownS (t : Ty) (n i : Nat) : SV → SV | .p x => .p (ownP t n x) | .tup l => .tup (ownAt (ownP t n) i l) | s => s
def ownH (t : Ty) (n k i : Nat) (h : List HB) : List HB := ownAt (fun it => match it with | .cells e cs => .cells e (ownAt (ownV t n) i cs) | it => it) k h
theorem ownAt_get {α : Type} {f : α → α} : ∀ {i : Nat} {l : List α} {k : Nat} {x : α}, (ownAt f i l)[k]? = some x → ∃ y, l[k]? = some y ∧ (x = y ∨ x = f y)
  | _, [], k, x, h => by simp [ownAt] at h
  | 0, a :: r, k, x, h => by
    cases k with
    | zero => simp only [ownAt, List.getElem?_cons_zero, Option.some.injEq] at h; exact ⟨a, rfl, .inr h.symm⟩
    | succ k => simp only [ownAt, List.getElem?_cons_succ] at h ⊢; exact ⟨x, h, .inl rfl⟩
  | i + 1, a :: r, k, x, h => by
    cases k with
    | zero => simp only [ownAt, List.getElem?_cons_zero, Option.some.injEq] at h; exact ⟨a, rfl, .inl h.symm⟩
    | succ k => simp only [ownAt, List.getElem?_cons_succ] at h ⊢; exact ownAt_get h
theorem ownAt_get' {α : Type} {f : α → α} : ∀ {i : Nat} {l : List α} {k : Nat} {y : α}, l[k]? = some y → (ownAt f i l)[k]? = some y ∨ (ownAt f i l)[k]? = some (f y)
  | _, [], k, x, h => by simp at h
  | 0, a :: r, k, x, h => by
    cases k with
    | zero => simp only [List.getElem?_cons_zero, Option.some.injEq] at h; subst h; exact .inr rfl
    | succ k => exact .inl h
  | i + 1, a :: r, k, x, h => by
    cases k with
    | zero => exact .inl h
    | succ k => simp only [ownAt, List.getElem?_cons_succ] at h ⊢; exact ownAt_get' h
theorem hsat_ownH {π : Pers} {ρ : Env} {h : List HB} {w : World} (H : HSat π ρ h w) (t : Ty) (n k i : Nat) : HSat π ρ (ownH t n k i h) w := by
  refine ⟨?_, ?_, ?_, ?_, H.pers, ?_⟩
  · intro j x hj
    obtain ⟨y, hy, he⟩ := ownAt_get hj
    have h0 := H.items j y hy
    rcases he with rfl | rfl
    · exact h0
    · cases y with
      | cells e cs => obtain ⟨g, vs, h1, h2, h3⟩ := h0; exact ⟨g, vs, by rw [ownAt_len]; exact h1, h2, all2_ownAt (fun _ _ h => den_ownV h) i h3⟩
      | row e t xs => exact h0
      | map ka kt va vt es => exact h0
      | nest e bx fs xs hole => exact h0
      | gone => exact h0
  · intro j hj; unfold ownH at hj; rw [ownAt_len] at hj; exact H.lt j hj
  · intro j j' g hj hj'; unfold ownH at hj hj'; rw [ownAt_len] at hj hj'; exact H.inj j j' g hj hj'
  · intro j g hj; unfold ownH at hj; rw [ownAt_len] at hj; exact H.apart j g hj
  · intro j hj; unfold ownH at hj; rw [ownAt_len] at hj; exact H.out j hj
theorem step_ownH {N : Nat} {ρ ρ' : Env} {h h' : List HB} {w w' : World} {π π' : Pers} (St : Step N ρ h w π ρ' h' w' π') (t : Ty) (n k i : Nat) : Step N ρ h w π ρ' (ownH t n k i h') w' π' := by
  refine ⟨St.os, St.tape, St.output, St.size, St.block, ?_, St.pmono, St.pfresh, ?_⟩
  · intro j g hj; unfold ownH at hj; rw [ownAt_len] at hj; exact St.fresh j g hj
  · intro j x κ hj hit hκ
    obtain ⟨e1, it', e2, k2⟩ := St.keep j x κ hj hit hκ
    refine ⟨e1, ?_⟩
    rcases ownAt_get' (f := fun it => match it with | .cells e cs => .cells e (ownAt (ownV t n) i cs) | it => it) (i := k) e2 with h | h
    · exact ⟨it', h, k2⟩
    · exact ⟨_, h, by cases it' <;> exact k2⟩
/-- The result (of a tuple: its part i), where it is nil, is a row of the caller's own. -/
theorem spec_ownR {P : Program} {f : FuncId} {args : List PV} {h : List HB} {Q : SV → List HB → Prop} (e : TypeId) (t : Ty) (i : Nat) (hs : FSpec P f args h fun r h' => Q r h' ∨ Q (ownS t h'.length i r) (h' ++ [.row e t ([] : List t.T)])) : FSpec P f args h Q := by
  intro π ρ w vs hh ha
  refine (hs π ρ w vs hh ha).mono ?_
  rintro _ w' ⟨v, π', ρ', r, h', rfl, h2, h3, h4, h5⟩
  rcases h5 with h5 | h5
  · exact ⟨v, π', ρ', r, h', rfl, h2, h3, h4, h5⟩
  refine ⟨v, π', ρ', _, _, rfl, ?_, hsat_nil h3 e t, step_nil h4 h3 _, h5⟩
  cases r with
  | p x => exact denp_ownP h2
  | tup l => obtain ⟨us, h6, h7⟩ := h2; exact ⟨us, h6, all2_ownAt (fun _ _ h => denp_ownP h) i h7⟩
  | gd j b x => exact h2.elim
/-- Cell i of block k, where it is nil, is a row of the block's own. -/
theorem spec_ownH {P : Program} {f : FuncId} {args : List PV} {h : List HB} {Q : SV → List HB → Prop} (e : TypeId) (t : Ty) (k i : Nat) (hs : FSpec P f args h fun r h' => Q r h' ∨ Q r (ownH t h'.length k i h' ++ [.row e t ([] : List t.T)])) : FSpec P f args h Q := by
  intro π ρ w vs hh ha
  refine (hs π ρ w vs hh ha).mono ?_
  rintro _ w' ⟨v, π', ρ', r, h', rfl, h2, h3, h4, h5⟩
  rcases h5 with h5 | h5
  · exact ⟨v, π', ρ', r, h', rfl, h2, h3, h4, h5⟩
  have H := hsat_nil (hsat_ownH h3 t h'.length k i) e t
  exact ⟨v, π', ρ', _, _, rfl, h2, H, step_nil (step_ownH h4 t h'.length k i) (hsat_ownH h3 t h'.length k i) _, h5⟩

/-! ### shapes of cells and blocks -/
inductive CS where
  | int (k : IntKind) | bool | str | row (t : Ty) | ptr (b : Nat) | nilp | view (t : Ty) (b : Nat) | all (t : Ty) (b : Nat) | mp (b : Nat) | nilm | nils
abbrev CS.T : CS → Type
  | .int _ => Int | .bool => Bool | .str => ByteArray | .row t => List t.T | .view _ _ => Nat × Nat | .all _ _ => Nat | _ => Unit
def CS.enc : (s : CS) → s.T → CV
  | .int k, n => .int k n | .bool, b => .bool b | .str, s => .str s | .row t, xs => .row t xs | .ptr b, _ => .ptr b 0 | .nilp, _ => .nilp
  | .view t b, x => .view t b x.1 x.2 | .all t b, n => .view t b 0 n | .mp b, _ => .mp b | .nilm, _ => .nilm | .nils, _ => .nils
def CS.dec : (s : CS) → CV → Option s.T
  | .int k, .int k' n => bif decide (k' = k) then some n else none
  | .bool, .bool b => some b
  | .str, .str s => some s
  | .row t, .row t' xs => if h : t' = t then some (h ▸ xs) else none
  | .ptr b, .ptr b' 0 => bif Nat.beq b' b then some () else none
  | .nilp, .nilp => some ()
  | .view t b, .view t' b' a n => bif decide (t' = t) && Nat.beq b' b then some (a, n) else none
  | .all t b, .view t' b' 0 n => bif decide (t' = t) && Nat.beq b' b then some n else none
  | .mp b, .mp b' => bif Nat.beq b' b then some () else none
  | .nilm, .nilm => some ()
  | .nils, .nils => some ()
  | _, _ => none
theorem CS.dec_ok : ∀ (s : CS) (c : CV) (x : s.T), s.dec c = some x → c = s.enc x := by
  intro s c x h
  unfold CS.dec at h
  split at h
  · rename_i k k' n
    cases hk : decide (k' = k) with
    | false => rw [hk] at h; cases h
    | true => rw [hk] at h; have := of_decide_eq_true hk; subst this; cases h; rfl
  · cases h; rfl
  · cases h; rfl
  · rename_i t t' xs
    split at h
    · rename_i ht; subst ht; cases h; rfl
    · cases h
  · rename_i b b'
    cases hb : Nat.beq b' b with
    | false => rw [hb] at h; cases h
    | true => have := beq_eq hb; subst this; rfl
  · rfl
  · rename_i t b t' b' a n
    cases hb : (decide (t' = t) && Nat.beq b' b) with
    | false => rw [hb] at h; cases h
    | true =>
      rw [hb] at h
      simp only [Bool.and_eq_true, decide_eq_true_eq] at hb
      obtain ⟨rfl, hb⟩ := hb
      have := beq_eq hb
      subst this
      cases h; rfl
  · rename_i t b t' b' n
    cases hb : (decide (t' = t) && Nat.beq b' b) with
    | false => rw [hb] at h; cases h
    | true =>
      rw [hb] at h
      simp only [Bool.and_eq_true, decide_eq_true_eq] at hb
      obtain ⟨rfl, hb⟩ := hb
      have := beq_eq hb
      subst this
      cases h; rfl
  · rename_i b b'
    cases hb : Nat.beq b' b with
    | false => rw [hb] at h; cases h
    | true => have := beq_eq hb; subst this; rfl
  · rfl
  · rfl
  · cases h
abbrev CS.TL : List CS → Type
  | [] => Unit
  | s :: r => s.T × CS.TL r
def CS.encL : (l : List CS) → CS.TL l → List CV
  | [], _ => []
  | s :: r, x => s.enc x.1 :: CS.encL r x.2
def CS.decL : (l : List CS) → List CV → Option (CS.TL l)
  | [], [] => some ()
  | s :: r, c :: cs => match s.dec c, CS.decL r cs with
    | some x, some xs => some (x, xs)
    | _, _ => none
  | _, _ => none
theorem CS.decL_ok : ∀ (l : List CS) (cs : List CV) (x : CS.TL l), CS.decL l cs = some x → cs = CS.encL l x
  | [], [], x, h => rfl
  | s :: r, c :: cs, x, h => by
    simp only [CS.decL] at h
    split at h
    · rename_i y ys h1 h2
      cases h
      rw [CS.dec_ok s c y h1, CS.decL_ok r cs ys h2]
      rfl
    · cases h
  | [], _ :: _, _, h => by simp [CS.decL] at h
  | _ :: _, [], _, h => by simp [CS.decL] at h
/-! ### words for contracts: the shapes of arguments -/
inductive AS where
  | int (k : IntKind) | bool | str | row (t : Ty) | data (t : Ty) | ptr (b : Nat) | nilp | cell (s : CS) | clo (f : FuncId) (l : List CS) | agg (l : List CS)
abbrev AS.T : AS → Type
  | .int _ => Int | .bool => Bool | .str => ByteArray | .row t => List t.T | .data t => t.T | .ptr _ => Unit | .nilp => Unit | .cell s => s.T | .clo _ l => CS.TL l | .agg l => CS.TL l
def AS.enc : (s : AS) → s.T → PV
  | .int k, n => .c (.int k n) | .bool, b => .c (.bool b) | .str, s => .c (.str s) | .row t, xs => .c (.row t xs) | .data t, x => .agg (toCV t x) | .ptr b, _ => .c (.ptr b 0) | .nilp, _ => .c .nilp | .cell s, x => .c (s.enc x) | .clo f l, x => .clo f (CS.encL l x) | .agg l, x => .agg (CS.encL l x)
def AS.dec : (s : AS) → PV → Option s.T
  | .int k, .c (.int k' n) => bif decide (k' = k) then some n else none
  | .bool, .c (.bool b) => some b
  | .str, .c (.str s) => some s
  | .row t, .c (.row t' xs) => if h : t' = t then some (h ▸ xs) else none
  | .row t, .c .nils => some ([] : List t.T)
  | .data t, .agg l => match fromCV t l with | some (x, []) => some x | _ => none
  | .ptr b, .c (.ptr b' 0) => bif Nat.beq b' b then some () else none
  | .nilp, .c .nilp => some ()
  | .cell s, .c c => s.dec c
  | .clo f l, .clo f' cs => bif Nat.beq f' f then CS.decL l cs else none
  | .agg l, .agg cs => CS.decL l cs
  | _, _ => none
/-- What p says q says, too. -/
def LeP (p q : PV) : Prop := ∀ π ρ v, DenP π ρ p v → DenP π ρ q v
theorem fromCV_le : ∀ (t : Ty) (l r : List CV) (x : t.T) (π : Pers) (ρ : Env) (vs : List Value), fromCV t l = some (x, r) → All2 (DenC π ρ) l vs → All2 (DenC π ρ) (toCV t x ++ r) vs := by
  intro t l r x π ρ vs h ha
  obtain ⟨v1, v2, rfl, h1, h2⟩ := fromCV_ok t l vs x r ha h
  exact all2_append (toCV_ok t x v1 h1) h2
theorem AS.dec_ok : ∀ (s : AS) (p : PV) (x : s.T), s.dec p = some x → LeP p (s.enc x) := by
  intro s p x h π ρ v hv
  unfold AS.dec at h
  split at h
  · rename_i k k' n
    cases hb : decide (k' = k) with
    | false => rw [hb] at h; cases h
    | true => rw [hb] at h; cases h; have := of_decide_eq_true hb; subst this; exact hv
  · cases h; exact hv
  · cases h; exact hv
  · rename_i t t' xs
    split at h
    · rename_i ht; subst ht; cases h; exact hv
    · cases h
  · cases h
    have hv' : v = .slice none 0 0 := hv
    subst hv'
    exact ⟨none, 0, rfl, Nat.le_refl _, by simp [maxLen], .inl rfl⟩
  · rename_i t l
    split at h
    · rename_i y hy
      cases h
      obtain ⟨vs, rfl, h2⟩ := hv
      refine ⟨vs, rfl, ?_⟩
      have := fromCV_le t l [] _ π ρ vs hy h2
      simpa using this
    · cases h
  · rename_i b b'
    cases hb : Nat.beq b' b with
    | false => rw [hb] at h; cases h
    | true => rw [hb] at h; cases h; have := beq_eq hb; subst this; exact hv
  · cases h; exact hv
  · rename_i s c
    rw [CS.dec_ok s c x h] at hv
    exact hv
  · rename_i f l f' cs
    cases hb : Nat.beq f' f with
    | false => rw [hb] at h; cases h
    | true => rw [hb] at h; have := beq_eq hb; subst this; rw [CS.decL_ok l cs x h] at hv; exact hv
  · rename_i l cs
    rw [CS.decL_ok l cs x h] at hv; exact hv
  · cases h
abbrev AS.TL : List AS → Type
  | [] => Unit
  | s :: r => s.T × AS.TL r
def AS.encL : (l : List AS) → AS.TL l → List PV
  | [], _ => []
  | s :: r, x => s.enc x.1 :: AS.encL r x.2
def AS.decL : (l : List AS) → List PV → Option (AS.TL l)
  | [], [] => some ()
  | s :: r, p :: ps => match s.dec p, AS.decL r ps with
    | some x, some xs => some (x, xs)
    | _, _ => none
  | _, _ => none
theorem AS.decL_ok : ∀ (l : List AS) (ps : List PV) (x : AS.TL l), AS.decL l ps = some x → All2 LeP ps (AS.encL l x)
  | [], [], x, _ => trivial
  | [], _ :: _, x, h => by simp [AS.decL] at h
  | _ :: _, [], x, h => by simp [AS.decL] at h
  | s :: r, p :: ps, x, h => by
    simp only [AS.decL] at h
    split at h
    · rename_i y ys hy hys
      cases h
      exact ⟨AS.dec_ok s p y hy, AS.decL_ok r ps ys hys⟩
    · cases h
theorem all2_le {π : Pers} {ρ : Env} : ∀ {l m : List PV} {vs : List Value}, All2 LeP l m → All2 (DenP π ρ) l vs → All2 (DenP π ρ) m vs
  | [], [], [], _, _ => trivial
  | _ :: _, _ :: _, _ :: _, h, h' => ⟨h.1 _ _ _ h'.1, all2_le h.2 h'.2⟩
  | [], _ :: _, _, h, _ => h.elim
  | _ :: _, [], _, h, _ => h.elim
  | _ :: _, _ :: _, [], _, h' => h'.elim
  | [], [], _ :: _, _, h' => h'.elim
theorem spec_le {P : Program} {f : FuncId} {a b : List PV} {h : List HB} {Q : SV → List HB → Prop} (hl : All2 LeP a b) (hs : FSpec P f b h Q) : FSpec P f a h Q :=
  fun π ρ w vs hh ha => hs π ρ w vs hh (all2_le hl ha)
/-- A contract: the shapes of the arguments, the blocks, what is asked and what comes of it. -/
def trOf {β : Type} (as : List AS) (hd : List HB → Option β) (I : AS.TL as → β → (SV → List HB → Prop) → Prop) : Tr := fun args h Q =>
  match AS.decL as args, hd h with
  | some x, some y => I x y Q
  | _, _ => False
theorem tr_ok {β : Type} {P : Program} {f : FuncId} {as : List AS} {hd : List HB → Option β} {he : β → List HB} {I : AS.TL as → β → (SV → List HB → Prop) → Prop} (hh : ∀ h y, hd h = some y → h = he y)
    (hs : ∀ x y Q, I x y Q → FSpec P f (AS.encL as x) (he y) Q) : ∀ args h Q, trOf as hd I args h Q → FSpec P f args h Q := by
  intro args h Q ht
  unfold trOf at ht
  split at ht
  · rename_i x y hx hy
    obtain rfl := hh h y hy
    exact spec_le (AS.decL_ok as args x hx) (hs x y Q ht)
  · exact ht.elim
def noH : List HB → Option Unit | [] => some () | _ => none
theorem noH_ok : ∀ h y, noH h = some y → h = (fun _ : Unit => ([] : List HB)) y := by
  intro h y hh; cases h with | nil => rfl | cons _ _ => simp [noH] at hh
/-- Contracts of functions by their numbers. -/
def gam : List (Nat × List Bool × Tr) → Gam
  | [], _ => none
  | (k, o, t) :: r, f => bif Nat.beq k f then some (o, t) else gam r f
def GOKL (P : Program) : List (Nat × List Bool × Tr) → Prop
  | [] => True
  | (k, _, t) :: r => (∀ args h Q, t args h Q → FSpec P k args h Q) ∧ GOKL P r
theorem gam_ok {P : Program} : ∀ {l : List (Nat × List Bool × Tr)}, GOKL P l → GOK P (gam l)
  | [], _ => fun f own tr h => by simp [gam] at h
  | (k, o, t) :: r, hl => fun f own tr h => by
    simp only [gam] at h
    cases hb : Nat.beq k f with
    | true => rw [hb] at h; simp only [cond_true, Option.some.injEq, Prod.mk.injEq] at h; obtain ⟨rfl, rfl⟩ := h; rw [← beq_eq hb]; exact hl.1
    | false => rw [hb] at h; exact gam_ok hl.2 f own tr h
/-- What a function's body is asked. -/
def body (P : Program) (Γ : Gam) (Λ : Lam) (fn : Func) (args : List PV) (h : List HB) (Q : SV → List HB → Prop) : Prop :=
  match fn.body with
  | some c => sx P Γ Λ c 0 { nt := fn.ntmps, fr := argsF 0 args, hp := h } (retQ P fn.results.toList h.length Q)
  | none => False
def loopL (fn : Func) : List (Nat × Code) := match fn.body with | some c => loopsOf c 0 | none => []
theorem spec_body {P : Program} {Γ : Gam} {Λ : Lam} (hΓ : GOK P Γ) {f : FuncId} {fn : Func} (hf : P.funcs[f]? = some fn) {args : List PV} {h : List HB} {Q : SV → List HB → Prop} (hn : Nat.ble args.length fn.ntmps = true) (hl : LOK h.length P Λ (loopL fn)) (hb : body P Γ Λ fn args h Q) : FSpec P f args h Q := by
  unfold body at hb
  unfold loopL at hl
  split at hb
  · rename_i c hc
    rw [hc] at hl
    exact spec_of hΓ hf hc hn hl hb
  · exact hb.elim
/-- .. of which less is said. -/
def QF (N : Nat) (Q : Exit → SS → Prop) : Exit → SS → Prop := fun e s => ∃ t, Fits N s t ∧ Q e t
theorem W_QF {N : Nat} {P : Program} {c : Code} {s : SS} {Q : Exit → SS → Prop} (h : W N P c s (QF N Q)) : W N P c s Q := by
  intro π ρ a w S
  refine wp_mono (h π ρ a w S) ?_
  rintro e a' w' ⟨π', ρ', s', S', St, t, hf, hq⟩
  obtain ⟨ρ2, S2, hst⟩ := fits_ok hf S'
  exact ⟨π', ρ2, t, S2, hst St, hq⟩
def pickF (fr : List (Nat × SV)) : List Nat → List (Nat × SV)
  | [] => []
  | i :: r => match lk fr i with | some v => (i, v) :: pickF fr r | none => pickF fr r
def rootsL (fr : List (Nat × SV)) : List Nat → List CV
  | [] => []
  | i :: r => (match lk fr i with | some v => cellsOfS v | none => []) ++ rootsL fr r
/-- The state as far as the slots L go. -/
def canon (N : Nat) (L : List Nat) (s : SS) : Option SS :=
  let m := names N s (rootsL s.fr L)
  bif okN N s.hp.length m && nodupN L then some { nt := s.nt, fr := pickF (renF (posOf m) s.fr) L, hp := subH s.hp m m } else none
theorem pickF_lk {fr : List (Nat × SV)} : ∀ {L : List Nat} {i : Nat} {v : SV}, lk (pickF fr L) i = some v → lk fr i = some v ∧ i ∈ L
  | [], i, v, h => by simp [pickF, lk] at h
  | j :: r, i, v, h => by
    simp only [pickF] at h
    split at h
    · rename_i u hu
      simp only [lk] at h
      cases hb : Nat.beq j i with
      | true => rw [hb] at h; simp only [cond_true, Option.some.injEq] at h; subst h; have := beq_eq hb; subst this; exact ⟨hu, by simp⟩
      | false => rw [hb] at h; obtain ⟨h1, h2⟩ := pickF_lk h; exact ⟨h1, by simp [h2]⟩
    · obtain ⟨h1, h2⟩ := pickF_lk h; exact ⟨h1, by simp [h2]⟩
theorem pickF_once {fr : List (Nat × SV)} : ∀ {L : List Nat}, nodupN L = true → once (pickF fr L) = true
  | [], _ => rfl
  | j :: r, h => by
    simp only [nodupN, Bool.and_eq_true, Bool.not_eq_true'] at h
    simp only [pickF]
    split
    · rename_i u hu
      simp only [once, Bool.and_eq_true]
      refine ⟨?_, pickF_once h.2⟩
      cases hl : lk (pickF fr r) j with
      | none => rfl
      | some x => have := memN_iff.2 (pickF_lk hl).2; rw [this] at h; exact absurd h.1 (by simp)
    · exact pickF_once h.2
theorem canon_ok {N : Nat} {L : List Nat} {s t : SS} (h : canon N L s = some t) {π : Pers} {ρ : Env} {a : Act} {w : World} (S : Sat π ρ s a w) : ∃ ρ', Sat π ρ' t a w ∧ ∀ {ρ2 h2 w2 π2}, Step N ρ2 h2 w2 π2 ρ s.hp w π → Step N ρ2 h2 w2 π2 ρ' t.hp w π := by
  unfold canon at h
  dsimp only at h
  generalize names N s (rootsL s.fr L) = m at h
  cases hq : (okN N s.hp.length m && nodupN L) with
  | false => rw [hq] at h; cases h
  | true =>
    rw [hq] at h
    simp only [cond_true, Option.some.injEq] at h
    simp only [Bool.and_eq_true] at hq
    obtain ⟨hm, hL⟩ := hq
    have hm' := hm
    simp only [okN, Bool.and_eq_true] at hm
    subst h
    have S1 := sat_restrict S hm.1.1 hm.1.2
    refine ⟨envOf ρ m, ⟨S1.hs, fun i v hi => S1.fs i v (pickF_lk hi).1, S.df, S.nt, pickF_once hL⟩, ?_⟩
    intro ρ2 h2 w2 π2 St
    have hlen := subH_len (h := s.hp) (m := m) m
    refine ⟨St.os, St.tape, St.output, St.size, St.block, ?_, St.pmono, St.pfresh, ?_⟩
    · intro k g hk hr
      obtain ⟨b, hb, hr'⟩ := own_env hr
      exact St.fresh b g (allLt_ok hm.1.2 k b hb) hr'
    · intro k it κ hk hit hκ
      obtain ⟨e1, it', e2, k2⟩ := St.keep k it κ hk hit hκ
      have hmk := isPre_ok hm.2 k hk
      have hlt : k < (subH s.hp m m).length := by rw [hlen]; exact (List.getElem?_eq_some_iff.1 hmk).1
      have hget := List.getElem?_eq_getElem hlt
      obtain ⟨b, hb, he⟩ := subH_get hget
      rw [hmk] at hb
      cases hb
      refine ⟨by rw [← e1]; simp [envOf, hmk], renH (posOf m) it', ?_, by rw [knd_ren]; exact k2⟩
      simp only
      rw [hget, he, e2]
      rfl
def cq (N : Nat) (L : List Nat) (K : SS → Prop) : SS → Prop := fun s => match canon N L s with | some t => K t | none => False
def cQ (N : Nat) (L : List Nat) (Q : Exit → SS → Prop) : Exit → SS → Prop := fun e s => match canon N L s with | some t => Q e t | none => False
theorem W_cQ {N : Nat} {P : Program} {c : Code} {s : SS} {L : List Nat} {Q : Exit → SS → Prop} (h : W N P c s (cQ N L Q)) : W N P c s Q := by
  intro π ρ a w S
  refine wp_mono (h π ρ a w S) ?_
  rintro e a' w' ⟨π', ρ', s', S', St, hq⟩
  unfold cQ at hq
  split at hq
  · rename_i t ht
    obtain ⟨ρ2, S2, hst⟩ := canon_ok ht S'
    exact ⟨π', ρ2, t, S2, hst St, hq⟩
  · exact hq.elim
/-- A loop, of which at each end only the slots L (L') are told. -/
theorem W_loopC {α : Type} {N : Nat} {P : Program} {body : Code} (st : α → SS) (I : α → Prop) (μ : α → Nat) (L L' : List Nat) {Q : Exit → SS → Prop}
    (hr : ∀ x, I x → W N P body (st x) (thenQ (cq N L fun t => ∃ y, t = st y ∧ I y ∧ μ y < μ x) (cQ N L' Q))) : ∀ x, I x → W N P (.loop body) (st x) Q := by
  intro x hx
  refine W_cQ (L := L') ?_
  intro π ρ a w S
  refine wp_loop_ghost (fun n a' w' => ∃ y π' ρ', I y ∧ μ y = n ∧ Sat π' ρ' (st y) a' w' ∧ Step N ρ (st x).hp w π ρ' (st y).hp w' π') (μ x) ⟨x, π, ρ, hx, rfl, S, Step.refl _ _ _ _ _⟩ ?_
  rintro n a1 w1 ⟨y, π1, ρ1, hy, rfl, S1, St1⟩
  refine wp_mono (hr y hy π1 ρ1 a1 w1 S1) ?_
  rintro e a2 w2 ⟨π2, ρ2, s2, S2, St2, hq⟩
  cases e with
  | normal =>
    simp only [thenQ, cq] at hq
    split at hq
    · rename_i t ht
      obtain ⟨z, rfl, hz, hlt⟩ := hq
      obtain ⟨ρ3, S3, hst⟩ := canon_ok ht S2
      exact ⟨μ z, hlt, z, π2, ρ3, hz, rfl, S3, hst (St1.trans St2)⟩
    · exact hq.elim
  | exit id => exact ⟨π2, ρ2, s2, S2, St1.trans St2, hq⟩
  | goto l => exact ⟨π2, ρ2, s2, S2, St1.trans St2, hq⟩
  | ret => exact ⟨π2, ρ2, s2, S2, St1.trans St2, hq⟩
  | panic c => exact ⟨π2, ρ2, s2, S2, St1.trans St2, hq⟩
  | outgrown => exact ⟨π2, ρ2, s2, S2, St1.trans St2, hq⟩
/-- A loop's contract: from a state that fits 'st x', where I x, one of the ends 'O x e t'. -/
def lamOf {α : Type} (N : Nat) (L : List Nat) (st : α → SS) (I : α → Prop) (O : α → (Exit → SS → Prop) → Prop) : SS → (Exit → SS → Prop) → Prop := fun s Q => cq N L (fun t => ∃ x, t = st x ∧ I x ∧ O x Q) s
theorem lam_ok {α : Type} {N : Nat} {P : Program} {c : Code} {L : List Nat} {st : α → SS} {I : α → Prop} {O : α → (Exit → SS → Prop) → Prop} (h : ∀ x Q, I x → O x Q → W N P (.loop c) (st x) Q) : ∀ s Q, lamOf N L st I O s Q → W N P (.loop c) s Q := by
  intro s Q hl
  unfold lamOf cq at hl
  split at hl
  · rename_i t ht
    obtain ⟨x, rfl, hi, ho⟩ := hl
    intro π ρ a w S
    obtain ⟨ρ', S', hst⟩ := canon_ok ht S
    refine wp_mono (h x Q hi ho π ρ' a w S') ?_
    rintro e a2 w2 ⟨π2, ρ2, s2, S2, St2, hq⟩
    exact ⟨π2, ρ2, s2, S2, (hst (Step.refl N ρ s.hp w π)).trans St2, hq⟩
  · exact hl.elim
/-- .. of which at a return the slots L2, else the slots L1 are told. -/
def cQE (N : Nat) (L1 L2 : List Nat) (Q : Exit → SS → Prop) : Exit → SS → Prop
  | .ret, s => cq N L2 (Q .ret) s
  | e, s => cq N L1 (Q e) s
theorem cQE_out {N : Nat} {L1 L2 : List Nat} {Q : Exit → SS → Prop} {e : Exit} {s : SS} (h : cQE N L1 L2 Q e s) : ∃ L t, canon N L s = some t ∧ Q e t := by
  have key : ∀ L, cq N L (Q e) s → ∃ L t, canon N L s = some t ∧ Q e t := by
    intro L hh
    unfold cq at hh
    split at hh
    · rename_i t ht; exact ⟨L, t, ht, hh⟩
    · exact hh.elim
  cases e <;> exact key _ h
theorem W_loopE {α : Type} {N : Nat} {P : Program} {body : Code} (st : α → SS) (I : α → Prop) (μ : α → Nat) (L L1 L2 : List Nat) {Q : Exit → SS → Prop}
    (hr : ∀ x, I x → W N P body (st x) (thenQ (cq N L fun t => ∃ y, t = st y ∧ I y ∧ μ y < μ x) (cQE N L1 L2 Q))) : ∀ x, I x → W N P (.loop body) (st x) Q := by
  intro x hx π ρ a w S
  refine wp_loop_ghost (fun n a' w' => ∃ y π' ρ', I y ∧ μ y = n ∧ Sat π' ρ' (st y) a' w' ∧ Step N ρ (st x).hp w π ρ' (st y).hp w' π') (μ x) ⟨x, π, ρ, hx, rfl, S, Step.refl _ _ _ _ _⟩ ?_
  rintro n a1 w1 ⟨y, π1, ρ1, hy, rfl, S1, St1⟩
  refine wp_mono (hr y hy π1 ρ1 a1 w1 S1) ?_
  rintro e a2 w2 ⟨π2, ρ2, s2, S2, St2, hq⟩
  have out : ∀ e, cQE N L1 L2 Q e s2 → ∃ π' ρ' s', Sat π' ρ' s' a2 w2 ∧ Step N ρ (st x).hp w π ρ' s'.hp w2 π' ∧ Q e s' := by
    intro e he
    obtain ⟨L', t, ht, hq⟩ := cQE_out he
    obtain ⟨ρ3, S3, hst⟩ := canon_ok ht S2
    exact ⟨π2, ρ3, t, S3, hst (St1.trans St2), hq⟩
  cases e with
  | normal =>
    simp only [thenQ, cq] at hq
    split at hq
    · rename_i t ht
      obtain ⟨z, rfl, hz, hlt⟩ := hq
      obtain ⟨ρ3, S3, hst⟩ := canon_ok ht S2
      exact ⟨μ z, hlt, z, π2, ρ3, hz, rfl, S3, hst (St1.trans St2)⟩
    · exact hq.elim
  | exit id => exact out _ hq
  | goto l => exact out _ hq
  | ret => exact out _ hq
  | panic c => exact out _ hq
  | outgrown => exact out _ hq
def LOKL (N : Nat) (P : Program) (Λ : Lam) : List (Nat × Code) → Prop
  | [] => True
  | (k, c) :: r => (∀ s Q, Λ k s Q → W N P (.loop c) s Q) ∧ LOKL N P Λ r
theorem lokl {N : Nat} {P : Program} {Λ : Lam} : ∀ {l : List (Nat × Code)}, LOKL N P Λ l → LOK N P Λ l
  | [], _ => fun k c h => by simp at h
  | (k, c) :: r, h => fun k' c' hm => by
    rcases List.mem_cons.1 hm with e | hm
    · cases e; exact h.1
    · exact lokl h.2 k' c' hm
def lam : List (Nat × (SS → (Exit → SS → Prop) → Prop)) → Lam
  | [], _, _, _ => False
  | (k, f) :: r, n, s, Q => bif Nat.beq k n then f s Q else lam r n s Q
def noLam : Lam := fun _ _ _ => False
theorem noLam_ok {N : Nat} {P : Program} {l : List (Nat × Code)} : LOK N P noLam l := fun _ _ _ _ _ h => h.elim
end Go.Proofs.Ytckijackbldkhaa.Sx
namespace Go.Proofs.Ytckijackbldkhaa.Sx
open Go Go.RowKit Go.ChangeShapes Go.WideShapes
set_option linter.unusedVariables false
set_option linter.unusedSimpArgs false

/-- Data as it may come in. -/
def wfT : (t : Ty) → t.T → Prop
  | .int k, n => (Lit.int k n).wf = true
  | .bool, _ => True
  | .str, s => s.size ≤ 140737488351232
  | .unit, _ => True
  | .prod a b, x => wfT a x.1 ∧ wfT b x.2
  | .row t, xs => xs.length ≤ 140737488351232 ∧ ∀ x ∈ xs, wfT t x
  | .fix t, x => wfT t x
def isFs (P : Program) (rec : TypeId → Ty → Bool) : List Field → Ty → Nat → Bool
  | [], .unit, _ => true
  | [f], t, off => Nat.beq f.offset off && Nat.beq (P.cellsOf f.type) t.sz && rec f.type t
  | f :: g :: r, .prod a b, off => Nat.beq f.offset off && Nat.beq (P.cellsOf f.type) a.sz && rec f.type a && isFs P rec (g :: r) b (off + a.sz)
  | _, _, _ => false
def isTy (P : Program) : Nat → TypeId → Ty → Bool
  | 0, _, _ => false
  | k + 1, T, ty => match P.underlying T, ty with
    | some (.int kd), .int k' => decide (k' = kd)
    | some .bool, .bool => true
    | some .string, .str => true
    | some (.slice e), .row u => isTy P k e u && Nat.beq (P.cellsOf e) u.sz && Nat.ble 1 (P.bytesOf e) && Nat.ble 1 u.sz
    | some (.struct fs), ty => isFs P (isTy P k) fs.toList ty 0 && Nat.beq (P.cellsOf T) ty.sz
    | _, _ => false
def piOf (w : World) : Pers := fun g => match w.heap[g]? with | some (.cells vs _ _) => some vs | _ => none
theorem pi_some {w : World} {g : Nat} {vs : Array Value} (h : piOf w g = some vs) : ∃ e f, w.heap[g]? = some (.cells vs e f) := by
  unfold piOf at h
  cases hh : w.heap[g]? with
  | none => rw [hh] at h; cases h
  | some o =>
    rw [hh] at h
    cases o with
    | cells vs' e f => cases h; exact ⟨e, f, rfl⟩
    | _ => cases h
theorem hsat_pi (w : World) (hg : GOk (piOf w)) : HSat (piOf w) (fun _ => none) [] w :=
  ⟨fun k it h => by simp at h, fun k h => by simp at h, fun k k' g h => by simp at h, fun k g h => by simp at h, ⟨fun g vs h => pi_some h, hg⟩, fun _ _ => rfl⟩
section
variable {P : Program} {H : Type} {enc : TypeId × Value → H} {w : World}
def OpensTo (P : Program) (enc : TypeId × Value → H) (w : World) (T : TypeId) (ty : Ty) : Prop :=
  ∀ (fuel : Nat) (cs : List Value) (x : DataW H × List MemPlace), DataW.trod enc P w 0 (fun _ => true) true fuel T cs = some x → (∀ n ∈ x.1.weights P T, n ≤ reachBytes) → ∃ y, Rep (piOf w) ty y cs ∧ wfT ty y
theorem opens_fs {rec : TypeId → Ty → Bool} (hrec : ∀ T ty, rec T ty = true → OpensTo P enc w T ty) : ∀ (fs : List Field) (ty : Ty) (off : Nat) (cs : List Value), isFs P rec fs ty off = true →
    (∀ f, f ∈ fs → ∃ (n : Nat) (y : DataW H × List MemPlace), DataW.trod enc P w 0 (fun _ => true) true n f.type ((cs.drop f.offset).take (P.cellsOf f.type)) = some y ∧ ∀ q ∈ y.1.weights P f.type, q ≤ reachBytes) →
    ∃ y, Rep (piOf w) ty y ((cs.drop off).take ty.sz) ∧ wfT ty y
  | [], ty, off, cs, h, _ => by
    cases ty with
    | unit => exact ⟨(), by simp [Rep, Ty.sz], trivial⟩
    | _ => simp [isFs] at h
  | [f], ty, off, cs, h, hf => by
    simp only [isFs, Bool.and_eq_true] at h
    obtain ⟨⟨h1, h2⟩, h3⟩ := h
    obtain ⟨n, y, hy, hw⟩ := hf f (by simp)
    rw [beq_eq h1, beq_eq h2] at hy
    exact hrec _ _ h3 n _ y hy hw
  | f :: g :: r, ty, off, cs, h, hf => by
    cases ty with
    | prod a b =>
      simp only [isFs, Bool.and_eq_true] at h
      obtain ⟨⟨⟨h1, h2⟩, h3⟩, h4⟩ := h
      obtain ⟨n, y, hy, hw⟩ := hf f (by simp)
      rw [beq_eq h1, beq_eq h2] at hy
      obtain ⟨ya, ra, wa⟩ := hrec _ _ h3 n _ y hy hw
      obtain ⟨yb, rb, wb⟩ := opens_fs hrec (g :: r) b (off + a.sz) cs h4 (fun f' hf' => hf f' (List.mem_cons_of_mem _ hf'))
      refine ⟨(ya, yb), ⟨_, _, ?_, ra, rb⟩, wa, wb⟩
      show (cs.drop off).take (a.sz + b.sz) = _
      rw [List.take_add, List.drop_drop]
    | _ => simp [isFs] at h
theorem w_all {e : TypeId} : ∀ {l : List (DataW H)} {y : DataW H}, y ∈ l → ∀ n ∈ y.weights P e, n ∈ DataW.weightsAll P e l
  | a :: l, y, hy, n, hn => by
    simp only [DataW.weightsAll, List.mem_append]
    rcases List.mem_cons.1 hy with rfl | hy
    · exact Or.inl hn
    · exact Or.inr (w_all hy n hn)
theorem opens_ty : ∀ (k : Nat) (T : TypeId) (ty : Ty), isTy P k T ty = true → OpensTo P enc w T ty
  | 0, _, _, h => by simp [isTy] at h
  | k + 1, T, ty, h => by
    intro fuel cs x hx hw
    simp only [isTy] at h
    split at h
    · rename_i kd k' hu
      have := of_decide_eq_true h
      subst this
      obtain ⟨n, rfl, _, hn⟩ := DataW.trod_int hu hx
      exact ⟨n, rfl, hn⟩
    · rename_i hu
      obtain ⟨n, rfl, _⟩ := DataW.trod_bool hu hx
      exact ⟨n, rfl, trivial⟩
    · rename_i hu
      obtain ⟨s, rfl, rfl, _⟩ := DataW.trod_string hu hx
      have h1 := hw s.data.toList.length (by simp [DataW.weights])
      have h2 : reachBytes = 140737488351232 := by decide
      rw [h2] at h1
      have h3 : s.size ≤ 140737488351232 := by simpa using h1
      exact ⟨s, ⟨rfl, Nat.le_trans h3 (by decide)⟩, h3⟩
    · rename_i e u hu
      simp only [Bool.and_eq_true] at h
      obtain ⟨⟨⟨he, hc⟩, hb⟩, hz⟩ := h
      have hc := beq_eq hc
      have hb := Nat.le_of_ble_eq_true hb
      have hz := Nat.le_of_ble_eq_true hz
      have ih := opens_ty k e u he
      rcases Deep.open_slice hu hx with ⟨rfl, rfl⟩ | ⟨a, len, cap, m, n, D, Pl, rfl, _, hl, hm, hmm, rfl, hel⟩
      · exact ⟨([] : List u.T), ⟨_, rfl, none, 0, rfl, Nat.le_refl _, by simp [maxLen], .inl rfl⟩, by simp, fun x hx => by simp at hx⟩
      · have hm' : m = cap := by simpa using hmm
        subst hm'
        have h2 : reachBytes = 140737488351232 := by decide
        have hws : ∀ n ∈ (DataW.slice ((List.range len).map D) ((List.range (m - len)).map fun j => D (len + j))).weights P T, n ≤ reachBytes := hw
        simp only [DataW.weights, hu] at hws
        have hsz := hws _ (List.mem_cons_self)
        rw [h2] at hsz
        simp only [List.length_map, List.length_range] at hsz
        have hcl : ∀ i, i < len → ∃ vs e' f', w.heap[a.block]? = some (.cells vs e' f') ∧ (i = 0 → a.spot = none) := by
          intro i hi
          obtain ⟨cs', h1, h3⟩ := hel i (by omega)
          obtain ⟨_, hlen, hcell⟩ := World.cells?_some h1
          rw [hc] at hlen hcell
          have h0 := hcell 0 hz
          rw [List.getElem?_eq_getElem (by omega)] at h0
          have hbl : ((a.add (i * u.sz)).add 0).block = a.block := by unfold Addr.add; split <;> split <;> rfl
          unfold World.cell? at h0
          split at h0
          · rename_i vs e' f' hh
            rw [hbl] at hh
            split at h0
            · cases h0
            · rename_i hsp
              refine ⟨vs, e', f', hh, fun hi0 => ?_⟩
              subst hi0
              have : ((a.add (0 * u.sz)).add 0) = a := by simp [Addr.add]
              rw [this] at hsp
              cases hs : a.spot with
              | none => rfl
              | some z => rw [hs] at hsp; exact absurd rfl hsp
          · cases h0
        have pick : ∀ i, i < len → ∃ y, (∃ g vs, a.spot = none ∧ a.block = g ∧ piOf w g = some vs ∧ Rep (piOf w) u y (seg vs.toList (a.off + i * u.sz) u.sz)) ∧ wfT u y := by
          intro i hi
          obtain ⟨vs, e', f', hblk, _⟩ := hcl i hi
          have hsp : a.spot = none := by obtain ⟨_, _, _, _, h⟩ := hcl 0 (by omega); exact h rfl
          obtain ⟨cs', h1, h3⟩ := hel i (by omega)
          obtain ⟨_, hlen, hcell⟩ := World.cells?_some h1
          obtain ⟨y, hy, hyw⟩ := ih n cs' _ h3 (fun q hq => hws q (List.mem_cons_of_mem _ (List.mem_append_left _ (w_all (y := D i) (by simp; exact ⟨i, hi, rfl⟩) q hq))))
          rw [hc] at hlen hcell
          refine ⟨y, ⟨a.block, vs, hsp, rfl, by simp [piOf, hblk], ?_⟩, hyw⟩
          have : cs' = seg vs.toList (a.off + i * u.sz) u.sz := by
            apply List.ext_getElem?
            intro j
            unfold seg
            rw [List.getElem?_take]
            by_cases hj : j < u.sz
            · have hq := hcell j hj
              have he : (a.add (i * u.sz)).add j = ⟨a.block, a.off + i * u.sz + j, none⟩ := by
                obtain ⟨b, o, sp⟩ := a
                have hsp' : sp = none := hsp
                subst hsp'
                rw [Addr.add_mid, Addr.add_mid]
              rw [he] at hq
              unfold World.cell? at hq
              simp only [hblk, Option.isSome_none] at hq
              have hq' : vs.toList[a.off + i * u.sz + j]? = cs'[j]? := by simpa using hq
              rw [if_pos hj, List.getElem?_drop]
              exact hq'.symm
            · rw [if_neg hj, List.getElem?_eq_none (by omega)]
          rw [← this]; exact hy
        have hY : ∃ Y : Nat → Option u.T, ∀ i, i < len → ∃ y, Y i = some y ∧ (∃ g vs, a.spot = none ∧ a.block = g ∧ piOf w g = some vs ∧ Rep (piOf w) u y (seg vs.toList (a.off + i * u.sz) u.sz)) ∧ wfT u y := by
          refine ⟨fun i => if hi : i < len then some (Classical.choose (pick i hi)) else none, fun i hi => ⟨_, dif_pos hi, Classical.choose_spec (pick i hi)⟩⟩
        obtain ⟨Y, hY⟩ := hY
        have hlen : ((List.range len).filterMap Y).length = len ∧ ∀ i, i < len → ((List.range len).filterMap Y)[i]? = Y i := by
          clear hsz hws hw hx hel pick hl hm hcl
          induction len with
          | zero => exact ⟨rfl, fun i hi => by omega⟩
          | succ q ih =>
            obtain ⟨i1, i2⟩ := ih (by simp) (fun i hi => hY i (by omega))
            obtain ⟨y, hy, _⟩ := hY q (by omega)
            rw [List.range_succ, List.filterMap_append]
            simp only [List.filterMap_cons, hy, List.filterMap_nil]
            refine ⟨by simp [i1], fun i hi => ?_⟩
            by_cases hq : i < q
            · rw [List.getElem?_append_left (by omega), i2 i hq]
            · have : i = q := by omega
              subst this
              rw [List.getElem?_append_right (by omega), i1]
              simp [hy]
        obtain ⟨hl1, hl2⟩ := hlen
        have hmx : len ≤ 140737488351232 := by
          have h5 : m * 1 ≤ m * P.bytesOf e := Nat.mul_le_mul_left _ hb
          have h6 : len + (m - len) = m := by omega
          rw [h6] at hsz
          omega
        refine ⟨(List.range len).filterMap Y, ⟨_, rfl, some a, m, by rw [hl1], by rw [hl1]; exact hl, hm, ?_⟩, by rw [hl1]; exact hmx, ?_⟩
        · rcases Nat.eq_zero_or_pos len with h0 | h0
          · left; exact List.eq_nil_of_length_eq_zero (by rw [hl1, h0])
          · right
            obtain ⟨y0, hy0, ⟨g, vs, hs, hg, hp, _⟩, _⟩ := hY 0 h0
            refine ⟨g, a.off, vs, ?_, hp, ?_⟩
            · obtain ⟨b, o, sp⟩ := a
              have h1 : sp = none := hs
              have h2 : b = g := hg
              subst h1; subst h2; rfl
            · intro i x hi
              have hjl : i < len := by have := (List.getElem?_eq_some_iff.1 hi).1; omega
              obtain ⟨y, hy, ⟨g', vs', _, hg', hp', hr⟩, _⟩ := hY i hjl
              rw [hl2 i hjl, hy] at hi
              cases hi
              rw [← hg', hg, hp] at hp'
              cases hp'
              exact hr
        · intro z hz
          obtain ⟨j, hj⟩ := List.mem_iff_getElem?.1 hz
          have hjl : j < len := by have := (List.getElem?_eq_some_iff.1 hj).1; omega
          obtain ⟨y, hy, _, c4⟩ := hY j hjl
          rw [hl2 j hjl, hy] at hj
          cases hj
          exact c4
    · rename_i ty _ _ fs hu
      simp only [Bool.and_eq_true] at h
      obtain ⟨h1, h2⟩ := h
      have hsz := beq_eq h2
      obtain ⟨xs, n, rfl, rfl, hl, hlen, hf⟩ := DataW.trod_struct hu hx
      have := opens_fs (P := P) (enc := enc) (w := w) (fun T ty h => opens_ty k T ty h) fs.toList ty 0 cs h1 (fun f hfm => by
        obtain ⟨i, hfi⟩ := List.mem_iff_getElem?.1 hfm
        rw [Array.getElem?_toList] at hfi
        have hi : i < xs.length := by
          have := (Array.getElem?_eq_some_iff.1 hfi).1
          omega
        have h1 := hf i f hfi
        rw [List.getElem?_eq_getElem hi] at h1
        refine ⟨n, xs[i], h1, fun q hq => hw q ?_⟩
        show q ∈ (DataW.agg (xs.map (·.1))).weights P T
        simp only [DataW.weights, hu]
        refine DataW.weights_mem_each (j := i) (t := f.type) (d := xs[i].1) ?_ ?_ q hq
        · rw [List.getElem?_map, Array.getElem?_toList, hfi]; rfl
        · rw [List.getElem?_map, List.getElem?_eq_getElem hi]; rfl)
      obtain ⟨y, hy, hyw⟩ := this
      refine ⟨y, ?_, hyw⟩
      rw [List.drop_zero, List.take_of_length_le (by omega)] at hy
      exact hy
    · cases h
/-- An argument, as it is handed over. -/
def pvOf (P : Program) (T : TypeId) : (t : Ty) → t.T → PV := fun t x => match P.underlying T with
  | some (.struct _) => .agg (toCV t x)
  | _ => match toCV t x with | [c] => .c c | _ => .c .junk
abbrev TL : List Ty → Type
  | [] => Unit
  | t :: r => t.T × TL r
def pvL (P : Program) : List TypeId → (l : List Ty) → TL l → List PV
  | T :: Ts, t :: r, x => pvOf P T t x.1 :: pvL P Ts r x.2
  | _, _, _ => []
def wfTL : (l : List Ty) → TL l → Prop
  | [], _ => True
  | t :: r, x => wfT t x.1 ∧ wfTL r x.2
def isTys (P : Program) (k : Nat) : List TypeId → List Ty → Bool
  | [], [] => true
  | T :: Ts, t :: ts => isTy P k T t && isTys P k Ts ts
  | _, _ => false
theorem rep_cell {π : Pers} {t : Ty} {x : t.T} {v : Value} (h : Rep π t x [v]) : ∀ {ρ : Env} {y : CV}, toCV t x = [y] → DenC π ρ y v := by
  intro ρ y hy
  have := toCV_ok (ρ := ρ) t x _ h
  rw [hy] at this
  exact this.1
theorem open_arg {k : Nat} {T : TypeId} {ty : Ty} (ht : isTy P k T ty = true) {r : Reach} {base : Nat} {v : Value} (hv : Value.okWide P w r base T v) {d : DataW H} {ps : List MemPlace} (h : DataW.Trod enc P w 0 (fun _ => true) true T v d ps) (hz : ∀ n ∈ d.weights P T, n ≤ reachBytes) (ρ : Env) :
    ∃ y, DenP (piOf w) ρ (pvOf P T ty y) v ∧ wfT ty y := by
  obtain ⟨fuel, hf⟩ := h
  obtain ⟨y, hr, hw⟩ := opens_ty k T ty ht fuel _ _ hf hz
  refine ⟨y, ?_, hw⟩
  cases k with
  | zero => simp [isTy] at ht
  | succ k =>
    simp only [isTy] at ht
    unfold pvOf
    split at ht
    · rename_i kd k' hu
      obtain ⟨n, rfl⟩ := okWide_int hu hv
      rw [hu]
      exact rep_cell (ρ := ρ) (t := .int k') hr rfl
    · rename_i hu
      obtain ⟨n, rfl⟩ := okWide_bool hu hv
      rw [hu]
      exact rep_cell (ρ := ρ) (t := .bool) hr rfl
    · rename_i hu
      obtain ⟨n, rfl⟩ := okWide_string hu hv
      rw [hu]
      exact rep_cell (ρ := ρ) (t := .str) hr rfl
    · rename_i e u hu
      obtain ⟨a, l, c, rfl⟩ := okWide_slice hu hv
      rw [hu]
      exact rep_cell (ρ := ρ) (t := .row u) hr rfl
    · rename_i ty _ _ fs hu
      obtain ⟨cs, rfl, _⟩ := okWide_struct hu hv
      have hcs : (Value.agg cs).cells.toList = cs.toList := rfl
      rw [hcs] at hr
      rw [hu]
      exact ⟨cs.toList, by simp, toCV_ok (ρ := ρ) ty y _ hr⟩
    · cases ht
theorem open_all {k : Nat} {r : Reach} {base : Nat} (ρ : Env) : ∀ (Ts : List TypeId) (tys : List Ty) (vs : List Value) (ds : List (DataW H)) (ps : List MemPlace), isTys P k Ts tys = true → (∀ (j : Nat) t v, Ts[j]? = some t → vs[j]? = some v → Value.okWide P w r base t v) →
    DataW.TrodAll enc P w 0 (fun _ => true) true Ts vs ds ps → (∀ (j : Nat) t d, Ts[j]? = some t → ds[j]? = some d → ∀ n ∈ d.weights P t, n ≤ reachBytes) → ∃ ys, All2 (DenP (piOf w) ρ) (pvL P Ts tys ys) vs ∧ wfTL tys ys
  | [], [], vs, ds, ps, _, _, h, _ => by
    cases vs with
    | nil => exact ⟨(), trivial, trivial⟩
    | cons v vs => cases ds <;> simp [DataW.TrodAll] at h
  | T :: Ts, t :: tys, vs, ds, ps, ht, hv, h, hz => by
    simp only [isTys, Bool.and_eq_true] at ht
    obtain ⟨v, vs', d, ds', p, q, rfl, rfl, rfl, h1, h2⟩ := trodAll_cons h
    obtain ⟨y, hy, wy⟩ := open_arg ht.1 (hv 0 T v rfl rfl) h1 (hz 0 T d rfl rfl) ρ
    obtain ⟨ys, hys, wys⟩ := open_all ρ Ts tys vs' ds' q ht.2 (fun j t v h3 h4 => hv (j + 1) t v h3 h4) h2 (fun j t d h3 h4 => hz (j + 1) t d h3 h4)
    exact ⟨(y, ys), ⟨hy, hys⟩, wy, wys⟩
  | [], _ :: _, _, _, _, ht, _, _, _ => by simp [isTys] at ht
  | _ :: _, [], _, _, _, ht, _, _, _ => by simp [isTys] at ht
def allRd (P : Program) : List TypeId → Bool
  | [] => true
  | t :: r => P.readableRec t && Nat.blt t P.types.size && allRd P r
theorem trodAll_stays (hl : laidOutB P = true) {W' : World} (hb : Below w.heap.size w W') : ∀ (Ts : List TypeId) (vs : List Value) (ds : List (DataW H)) (ps : List MemPlace), allRd P Ts = true →
    DataW.TrodAll enc P w 0 (fun _ => true) true Ts vs ds ps → DataW.TrodAll enc P W' 0 (fun b => decide (b < w.heap.size)) true Ts vs ds ps
  | [], vs, ds, ps, _, h => by
    cases vs <;> cases ds <;> simp [DataW.TrodAll] at h ⊢
    exact h
  | T :: Ts, vs, ds, ps, ha, h => by
    simp only [allRd, Bool.and_eq_true, Nat.blt_eq] at ha
    obtain ⟨v, vs', d, ds', p, q, rfl, rfl, rfl, h1, h2⟩ := trodAll_cons h
    refine trodAll_cons_mk (Below.trod hl ha.1.1 ha.1.2 h1 hb ?_) (trodAll_stays hl hb Ts vs' ds' q ha.2 h2)
    obtain ⟨m, hm⟩ := h1
    exact DataW.trod_lt m _ _ _ hm
/-- A law's call, from its contract. -/
theorem law_calls {f : FuncId} {Ts : List TypeId} {tys : List Ty} {ys : TL tys} {args : Array Value} (hs : FSpec P f (pvL P Ts tys ys) [] fun r h' => r = .p (.c (.bool true))) (ha : All2 (DenP (piOf w) (fun _ => none)) (pvL P Ts tys ys) args.toList) (hgk : GOk (piOf w) := by intro g h; unfold gvar at h; cases h) :
    Calls P f args w fun e w' => e = .returned (.bool true) ∧ Below w.heap.size w w' := by
  have := hs (piOf w) (fun _ => none) w args.toList (hsat_pi w hgk) ha
  rw [Array.toArray_toList] at this
  refine this.mono ?_
  rintro e w' ⟨v, π', ρ', r, h', rfl, hd, H', St, rfl⟩
  have hv : v = .bool true := hd
  subst hv
  exact ⟨rfl, St.os, St.tape, St.output, St.size, fun g hg => St.block g hg (fun k hk => by simp at hk)⟩
/-- The library's variable is there. -/
theorem gok_cell {w : World} {g : Nat} {m : Int} (hv : gvar = some g) (hm : w.cell? ⟨g, 0, none⟩ = some (.int .i64 m)) : GOk (piOf w) := by
  intro g' hg'
  rw [hv] at hg'
  cases hg'
  unfold World.cell? at hm
  split at hm
  · rename_i c e f hc
    refine ⟨c, m, ?_, by simpa using hm⟩
    unfold piOf
    have hc : w.heap[g]? = some (.cells c e f) := hc
    rw [hc]
  · cases hm
end
end Go.Proofs.Ytckijackbldkhaa.Sx
namespace Go.Proofs.Ytckijackbldkhaa.Sx
open Go
set_option linter.unusedVariables false
set_option linter.unusedSimpArgs false

inductive HS where
  | cells (t : TypeId) (cs : List CS) | row (e : TypeId) (t : Ty) | map (ka : Bool) (kt : Ty) (va : Bool) (vt : Ty) | nest (e : TypeId) (bx : Option TypeId) (fs : List FT)
abbrev HS.T : HS → Type
  | .cells _ cs => CS.TL cs | .row _ t => List t.T | .map _ kt _ vt => List (kt.T × vt.T) | .nest _ _ fs => List (FsT fs)
def HS.enc : (s : HS) → s.T → HB
  | .cells t cs, x => .cells t (CS.encL cs x) | .row e t, xs => .row e t xs | .map ka kt va vt, es => .map ka kt va vt es | .nest e bx fs, xs => .nest e bx fs xs none
def HS.dec : (s : HS) → HB → Option s.T
  | .cells t cs, .cells t' l => bif Nat.beq t' t then CS.decL cs l else none
  | .row e t, .row e' t' xs => bif Nat.beq e' e then (if h : t' = t then some (h ▸ xs) else none) else none
  | .map ka kt va vt, .map ka' kt' va' vt' es => bif (ka' == ka) && (va' == va) then (if h : kt' = kt ∧ vt' = vt then some (h.1 ▸ h.2 ▸ es) else none) else none
  | .nest e bx fs, .nest e' bx' fs' xs none => bif Nat.beq e' e && decide (bx' = bx) then (if h : fs' = fs then some (h ▸ xs) else none) else none
  | _, _ => none
theorem HS.dec_ok : ∀ (s : HS) (c : HB) (x : s.T), s.dec c = some x → c = s.enc x := by
  intro s c x h
  unfold HS.dec at h
  split at h
  · rename_i t cs t' l
    cases hk : Nat.beq t' t with
    | false => rw [hk] at h; cases h
    | true => rw [hk] at h; have := beq_eq hk; subst this; rw [CS.decL_ok cs l x h]; rfl
  · rename_i e t e' t' xs
    cases hk : Nat.beq e' e with
    | false => rw [hk] at h; cases h
    | true =>
      rw [hk] at h; have := beq_eq hk; subst this
      simp only [cond_true] at h
      split at h
      · rename_i ht; subst ht; cases h; rfl
      · cases h
  · rename_i ka kt va vt ka' kt' va' vt' es
    cases hk : ((ka' == ka) && (va' == va)) with
    | false => rw [hk] at h; cases h
    | true =>
      rw [hk] at h
      simp only [Bool.and_eq_true, beq_iff_eq] at hk
      obtain ⟨rfl, rfl⟩ := hk
      simp only [cond_true] at h
      split at h
      · rename_i ht
        obtain ⟨rfl, rfl⟩ := ht
        cases h; rfl
      · cases h
  · rename_i e bx fs e' bx' fs' xs
    cases hk : (Nat.beq e' e && decide (bx' = bx)) with
    | false => rw [hk] at h; cases h
    | true =>
      rw [hk] at h
      simp only [Bool.and_eq_true, decide_eq_true_eq] at hk
      obtain ⟨h1, rfl⟩ := hk
      have := beq_eq h1
      subst this
      simp only [cond_true] at h
      split at h
      · rename_i ht; subst ht; cases h; rfl
      · cases h
  · cases h
abbrev HS.TL : List HS → Type
  | [] => Unit
  | s :: r => s.T × HS.TL r
def HS.encL : (l : List HS) → HS.TL l → List HB
  | [], _ => []
  | s :: r, x => s.enc x.1 :: HS.encL r x.2
def HS.decL : (l : List HS) → List HB → Option (HS.TL l)
  | [], [] => some ()
  | s :: r, c :: cs => match s.dec c, HS.decL r cs with
    | some x, some xs => some (x, xs)
    | _, _ => none
  | _, _ => none
theorem HS.decL_ok : ∀ (l : List HS) (h : List HB) (x : HS.TL l), HS.decL l h = some x → h = HS.encL l x
  | [], [], x, h => rfl
  | s :: r, c :: cs, x, h => by
    simp only [HS.decL] at h
    split at h
    · rename_i y ys h1 h2
      cases h
      rw [HS.dec_ok s c y h1, HS.decL_ok r cs ys h2]
      rfl
    · cases h
  | [], _ :: _, _, h => by simp [HS.decL] at h
  | _ :: _, [], _, h => by simp [HS.decL] at h
/-- A contract: the shapes of the arguments, of the blocks, what is asked and what comes of it. -/
def trH (as : List AS) (hs : List HS) (I : AS.TL as → HS.TL hs → (SV → List HB → Prop) → Prop) : Tr := trOf as (HS.decL hs) I
theorem trH_ok {P : Program} {f : FuncId} {as : List AS} {hs : List HS} {I : AS.TL as → HS.TL hs → (SV → List HB → Prop) → Prop}
    (h : ∀ x y Q, I x y Q → FSpec P f (AS.encL as x) (HS.encL hs y) Q) : ∀ args hh Q, trH as hs I args hh Q → FSpec P f args hh Q :=
  tr_ok (he := HS.encL hs) (HS.decL_ok hs) h
/-- One contract where the first argument is nil, another one where it isn't. -/
def orNil (t0 t : Tr) : Tr := fun args h Q => match args with
  | .c .nilp :: _ => t0 args h Q
  | _ => t args h Q
theorem orNil_ok {P : Program} {f : FuncId} {t0 t : Tr} (h0 : ∀ args h Q, t0 args h Q → FSpec P f args h Q) (h1 : ∀ args h Q, t args h Q → FSpec P f args h Q) : ∀ args h Q, orNil t0 t args h Q → FSpec P f args h Q := by
  intro args h Q hh
  unfold orNil at hh
  split at hh
  · exact h0 _ _ _ hh
  · exact h1 _ _ _ hh
def cloIn (f : FuncId) : List PV → Bool
  | [] => false
  | .clo g _ :: r => Nat.beq g f || cloIn f r
  | .c (.func g) :: r => Nat.beq g f || cloIn f r
  | _ :: r => cloIn f r
/-- One contract where the function f is handed over, another one where it isn't. -/
def orClo (f : FuncId) (t0 t : Tr) : Tr := fun args h Q => bif cloIn f args then t0 args h Q else t args h Q
theorem orClo_ok {P : Program} {g : FuncId} {f : FuncId} {t0 t : Tr} (h0 : ∀ args h Q, t0 args h Q → FSpec P g args h Q) (h1 : ∀ args h Q, t args h Q → FSpec P g args h Q) : ∀ args h Q, orClo f t0 t args h Q → FSpec P g args h Q := by
  intro args h Q hh
  unfold orClo at hh
  cases hc : cloIn f args with
  | true => rw [hc] at hh; exact h0 _ _ _ hh
  | false => rw [hc] at hh; exact h1 _ _ _ hh
/-- One contract where so many blocks are handed over, another one else. -/
def orLen (n : Nat) (t0 t : Tr) : Tr := fun args h Q => bif Nat.beq h.length n then t0 args h Q else t args h Q
theorem orLen_ok {P : Program} {g : FuncId} {n : Nat} {t0 t : Tr} (h0 : ∀ args h Q, t0 args h Q → FSpec P g args h Q) (h1 : ∀ args h Q, t args h Q → FSpec P g args h Q) : ∀ args h Q, orLen n t0 t args h Q → FSpec P g args h Q := by
  intro args h Q hh
  unfold orLen at hh
  cases hc : Nat.beq h.length n with
  | true => rw [hc] at hh; exact h0 _ _ _ hh
  | false => rw [hc] at hh; exact h1 _ _ _ hh
def failT : Tr := fun _ _ _ => False
theorem failT_ok {P : Program} {g : FuncId} : ∀ args h Q, failT args h Q → FSpec P g args h Q := fun _ _ _ h => h.elim

/-! ### loops that are run out -/
section
variable (P : Program) (Γ : Gam) (Λ : Lam)
def unr (c : Code) (k : Nat) : Nat → SS → (Exit → SS → Prop) → Prop
  | 0, _, _ => False
  | n + 1, s, Q => sx P Γ Λ c k s (thenQ (fun s' => unr c k n s' Q) Q)
end
theorem unr_ok {N : Nat} {P : Program} {Γ : Gam} {Λ : Lam} (hΓ : GOK P Γ) {c : Code} {k n : Nat} (hl : LOK N P Λ (loopsOf c k)) {s : SS} {Q : Exit → SS → Prop} (h : unr P Γ Λ c k n s Q) : W N P (.loop c) s Q := by
  intro π ρ a w S
  refine wp_loop_ghost (fun n a' w' => ∃ s' π' ρ', Sat π' ρ' s' a' w' ∧ Step N ρ s.hp w π ρ' s'.hp w' π' ∧ unr P Γ Λ c k n s' Q) n ⟨s, π, ρ, S, Step.refl _ _ _ _ _, h⟩ ?_
  rintro m a1 w1 ⟨s1, π1, ρ1, S1, St1, h1⟩
  cases m with
  | zero => exact h1.elim
  | succ m =>
    refine wp_mono (sx_ok (N := N) hΓ c k s1 _ hl h1 π1 ρ1 a1 w1 S1) ?_
    rintro e a2 w2 ⟨π2, ρ2, s2, S2, St2, hq⟩
    cases e with
    | normal => exact ⟨m, Nat.lt_succ_self m, s2, π2, ρ2, S2, St1.trans St2, hq⟩
    | exit id => exact ⟨π2, ρ2, s2, S2, St1.trans St2, hq⟩
    | goto l => exact ⟨π2, ρ2, s2, S2, St1.trans St2, hq⟩
    | ret => exact ⟨π2, ρ2, s2, S2, St1.trans St2, hq⟩
    | panic c => exact ⟨π2, ρ2, s2, S2, St1.trans St2, hq⟩
    | outgrown => exact ⟨π2, ρ2, s2, S2, St1.trans St2, hq⟩
theorem unr_all {N : Nat} {P : Program} {Γ : Gam} {Λ : Lam} (hΓ : GOK P Γ) {c : Code} {k n : Nat} (hl : LOK N P Λ (loopsOf c k)) : ∀ s Q, unr P Γ Λ c k n s Q → W N P (.loop c) s Q := fun _ _ h => unr_ok hΓ hl h
/-- A function's loops, by their place in the text. -/
noncomputable def lp (fn : Func) (i : Nat) : Code := match nth (loopL fn) i with | some p => p.2 | none => .skip
noncomputable def lpIn (c : Code) (k i : Nat) : Code := match nth (loopsOf c k) i with | some p => p.2 | none => .skip
theorem cond_of {c : Bool} {A B : Prop} (h1 : c = true → A) (h2 : c = false → B) : bif c then A else B := by cases c; exact h2 rfl; exact h1 rfl
theorem w64 {x : Int} (h1 : -9223372036854775808 ≤ x) (h2 : x ≤ 9223372036854775807) : IntKind.i64.wrap x = x := by rw [IntKind.wrap_i64]; omega
theorem w64n {n : Nat} (h : n ≤ 9223372036854775807) : IntKind.i64.wrap (n : Int) = (n : Int) := w64 (by omega) (by omega)
theorem w64u {x : Int} (h1 : 0 ≤ x) (h2 : x < 18446744073709551616) : IntKind.u64.wrap x = x := by rw [IntKind.wrap_u64]; omega
abbrev i64 (x : Int) : Prop := -9223372036854775808 ≤ x ∧ x ≤ 9223372036854775807
theorem wf_i64 {n : Int} (h : (Lit.int .i64 n).wf = true) : i64 n := by
  simpa [Lit.wf, IntKind.min, IntKind.max, IntKind.signed, IntKind.bits] using h
theorem getD_at {α : Type} {l : List α} {i : Nat} (h : i < l.length) (d : α) : l.getD i d = l[i] := by
  rw [List.getD_eq_getElem?_getD, List.getElem?_eq_getElem h]; rfl
/-- What a whole number leaves over, seen without a sign. -/
noncomputable def remU (x : Int) (n : Nat) : Nat := (IntKind.i64.wrap ((IntKind.u64.wrap x).tmod (IntKind.u64.wrap (n : Int)))).toNat
theorem remU_eq (x : Int) (n : Nat) (h0 : 0 < n) (h1 : n ≤ 1000000000) : IntKind.i64.wrap ((IntKind.u64.wrap x).tmod (IntKind.u64.wrap (n : Int))) = (remU x n : Int) ∧ remU x n < n := by
  unfold remU
  rw [w64u (x := (n : Int)) (by omega) (by omega)]
  have h2 : 0 ≤ IntKind.u64.wrap x := by rw [IntKind.wrap_u64]; omega
  have h3 : 0 ≤ (IntKind.u64.wrap x).tmod (n : Int) := Int.tmod_nonneg _ h2
  have h4 : (IntKind.u64.wrap x).tmod (n : Int) < (n : Int) := Int.tmod_lt_of_pos _ (by omega)
  rw [w64 (by omega) (by omega)]
  omega
theorem gok0 {P : Program} : GOK P (gam []) := gam_ok trivial
abbrev ti (n : Int) : PV := .c (.int .i64 n)
abbrev tb (b : Bool) : PV := .c (.bool b)
abbrev tI : Ty := .int .i64

/-! ### a nil slice, seen as a row of one's own without elements -/
/-- Cell i of block k, where it is nil, is a row of the block's own: in a state. -/
theorem W_ownH {N : Nat} {P : Program} {c : Code} {s : SS} {Q : Exit → SS → Prop} (e : TypeId) (t : Ty) (k i : Nat) (h : W N P c { s with hp := ownH t s.hp.length k i s.hp ++ [.row e t ([] : List t.T)] } Q) : W N P c s Q := by
  intro π ρ a w S
  have H0 := hsat_ownH S.hs t s.hp.length k i
  refine wp_mono (h π ρ a w ⟨hsat_nil H0 e t, S.fs, S.df, S.nt, S.on⟩) ?_
  rintro x a2 w2 ⟨π2, ρ2, s2, S2, St2, hq⟩
  exact ⟨π2, ρ2, s2, S2, (step_nil (step_ownH (Step.refl N ρ s.hp w π) t s.hp.length k i) H0 _).trans St2, hq⟩
def ownG (t : Ty) (n : Nat) : SV → SV | .p x => .p (ownP t n x) | s => s
theorem slot_ownG {π : Pers} {ρ : Env} {T : Array Value} {t : Ty} {n k : Nat} {v : SV} (h : SlotIs π ρ T k v) : SlotIs π ρ T k (ownG t n v) := by
  cases v with
  | p x => obtain ⟨u, h1, h2⟩ := h; exact ⟨u, h1, denp_ownP h2⟩
  | gd j b x => exact h
  | tup l => exact h
def ownF (t : Ty) (n i : Nat) : List (Nat × SV) → List (Nat × SV)
  | [] => []
  | (j, u) :: r => (j, bif Nat.beq j i then ownG t n u else u) :: ownF t n i r
theorem ownF_lk {t : Ty} {n i : Nat} : ∀ {fr : List (Nat × SV)} {k : Nat} {v : SV}, lk (ownF t n i fr) k = some v → ∃ u, lk fr k = some u ∧ (v = u ∨ v = ownG t n u)
  | [], k, v, h => by simp [ownF, lk] at h
  | (j, u) :: r, k, v, h => by
    simp only [ownF, lk] at h ⊢
    cases hj : Nat.beq j k with
    | true =>
      rw [hj] at h
      simp only [cond_true, Option.some.injEq] at h
      subst h
      refine ⟨u, rfl, ?_⟩
      cases Nat.beq j i with
      | true => exact .inr rfl
      | false => exact .inl rfl
    | false => rw [hj] at h; exact ownF_lk h
theorem ownF_none {t : Ty} {n i : Nat} : ∀ {fr : List (Nat × SV)} {k : Nat}, lk fr k = none → lk (ownF t n i fr) k = none
  | [], k, h => rfl
  | (j, u) :: r, k, h => by
    simp only [ownF, lk] at h ⊢
    cases hj : Nat.beq j k with
    | true => rw [hj] at h; cases h
    | false => rw [hj] at h; exact ownF_none h
theorem ownF_once {t : Ty} {n i : Nat} : ∀ {fr : List (Nat × SV)}, once fr = true → once (ownF t n i fr) = true
  | [], _ => rfl
  | (j, u) :: r, h => by
    simp only [once, ownF, Bool.and_eq_true] at h ⊢
    refine ⟨?_, ownF_once h.2⟩
    have h1 : lk r j = none := by cases hl : lk r j with | none => rfl | some x => rw [hl] at h; exact absurd h.1 (by simp)
    rw [ownF_none h1]
/-- Slot i, where it is nil, is a row of one's own: in a state. -/
theorem W_ownF {N : Nat} {P : Program} {c : Code} {s : SS} {Q : Exit → SS → Prop} (e : TypeId) (t : Ty) (i : Nat) (h : W N P c { s with fr := ownF t s.hp.length i s.fr, hp := s.hp ++ [.row e t ([] : List t.T)] } Q) : W N P c s Q := by
  intro π ρ a w S
  refine wp_mono (h π ρ a w ⟨hsat_nil S.hs e t, fun k v hk => ?_, S.df, S.nt, ownF_once S.on⟩) ?_
  · obtain ⟨u, h1, h2⟩ := ownF_lk hk
    have h3 := S.fs k u h1
    rcases h2 with rfl | rfl
    · exact h3
    · exact slot_ownG h3
  rintro x a2 w2 ⟨π2, ρ2, s2, S2, St2, hq⟩
  exact ⟨π2, ρ2, s2, S2, (step_nil (Step.refl N ρ s.hp w π) S.hs _).trans St2, hq⟩
def ownA (t : Ty) (n i : Nat) : SV → SV | .p (.agg l) => .p (.agg (ownAt (ownV t n) i l)) | s => s
/-- Cell i of the struct that is answered, where it is nil, is a row of the caller's own. -/
theorem spec_ownA {P : Program} {f : FuncId} {args : List PV} {h : List HB} {Q : SV → List HB → Prop} (e : TypeId) (t : Ty) (i : Nat) (hs : FSpec P f args h fun r h' => Q r h' ∨ Q (ownA t h'.length i r) (h' ++ [.row e t ([] : List t.T)])) : FSpec P f args h Q := by
  intro π ρ w vs hh ha
  refine (hs π ρ w vs hh ha).mono ?_
  rintro _ w' ⟨v, π', ρ', r, h', rfl, h2, h3, h4, h5⟩
  rcases h5 with h5 | h5
  · exact ⟨v, π', ρ', r, h', rfl, h2, h3, h4, h5⟩
  refine ⟨v, π', ρ', _, _, rfl, ?_, hsat_nil h3 e t, step_nil h4 h3 _, h5⟩
  cases r with
  | p x =>
    cases x with
    | c y => exact h2
    | agg l => obtain ⟨us, h6, h7⟩ := h2; exact ⟨us, h6, all2_ownAt (fun _ _ h => den_ownV h) i h7⟩
    | clo f l => exact h2
  | tup l => exact h2
  | gd j b x => exact h2.elim
/-- What is answered, if its slices are read alone from now on. -/
theorem spec_frz {P : Program} {f : FuncId} {args : List PV} {h : List HB} {Q : SV → List HB → Prop} (b0 : Nat) (bs0 : List Nat) (hs : FSpec P f args h fun r h' => noCells h' (b0 :: bs0) = true ∧ ∃ p ob bs' p', r = .p p ∧ brP ⟨0, [], h'⟩ p = some (ob, bs', p') ∧ allP ob ∧ (∀ x, x ∈ bs' → x ∈ b0 :: bs0) ∧ Q (.p (renP (keepN (b0 :: bs0)) p')) (goneB (b0 :: bs0) 0 h')) : FSpec P f args h Q := by
  intro π ρ w vs hh ha
  refine (hs π ρ w vs hh ha).mono ?_
  rintro _ w' ⟨v, π', ρ', r, h', rfl, h2, h3, h4, h5, p, ob, bs', p', rfl, h6, h7, h8, h9⟩
  have S : Sat π' ρ' ⟨0, [], h'⟩ (⟨#[], []⟩ : Act) w' := ⟨h3, fun i v hi => by simp [lk] at hi, rfl, rfl, rfl⟩
  obtain ⟨π2, ρ2, S2, St2, hp, _⟩ := sat_frz (N := h.length) S h5
  exact ⟨v, π2, ρ2, .p (renP (keepN (b0 :: bs0)) p'), _, rfl, hp _ _ (brP_ok S h2 h6 h7 h8), S2.hs, h4.trans St2, h9⟩
/-- What is answered, seen as data. -/
theorem spec_data {P : Program} {f : FuncId} {args : List PV} {h : List HB} {Q : SV → List HB → Prop} (t : Ty) (hs : FSpec P f args h fun r h' => ∃ l x, r = .p (.agg l) ∧ fromCV t l = some (x, []) ∧ Q (.p (.agg (toCV t x))) h') : FSpec P f args h Q := by
  intro π ρ w vs hh ha
  refine (hs π ρ w vs hh ha).mono ?_
  rintro _ w' ⟨v, π', ρ', r, h', rfl, h2, h3, h4, l, x, rfl, h6, h7⟩
  obtain ⟨us, rfl, h8⟩ := h2
  refine ⟨_, π', ρ', .p (.agg (toCV t x)), _, rfl, ⟨us, rfl, ?_⟩, h3, h4, h7⟩
  have := fromCV_le t l [] x π' ρ' us h6 h8
  simpa using this
/-- What is answered, seen as data: no block is left. -/
theorem spec_data0 {P : Program} {f : FuncId} {args : List PV} {Q : SV → List HB → Prop} (t : Ty) (hs : FSpec P f args [] fun r h' => ∃ l x, r = .p (.agg l) ∧ fromCV t l = some (x, []) ∧ Q (.p (.agg (toCV t x))) []) : FSpec P f args [] Q := by
  intro π ρ w vs hh ha
  refine (hs π ρ w vs hh ha).mono ?_
  rintro _ w' ⟨v, π', ρ', r, h', rfl, h2, h3, h4, l, x, rfl, h6, h7⟩
  obtain ⟨us, rfl, h8⟩ := h2
  obtain ⟨v1, v2, rfl, h9, h10⟩ := fromCV_ok t l us x [] h8 h6
  have e : v2 = [] := by cases v2 with | nil => rfl | cons _ _ => exact h10.elim
  subst e
  refine ⟨_, π', fun _ => none, .p (.agg (toCV t x)), [], rfl, ⟨_, rfl, ?_⟩, ⟨fun k it hk => by simp at hk, fun k hk => by simp at hk, fun k k' g hk => by simp at hk, fun k g hk => by simp at hk, h3.pers, fun _ _ => rfl⟩, ⟨h4.os, h4.tape, h4.output, h4.size, h4.block, fun k g hk => by simp at hk, h4.pmono, h4.pfresh, fun k it κ hk => by simp at hk⟩, h7⟩
  rw [List.append_nil]
  exact toCV_ok t x v1 h9
/-! ### rows that stay where they are -/
/-- What is answered by a call that was handed no block, seen otherwise. -/
theorem spec_conv {P : Program} {f : FuncId} {args : List PV} {Q : SV → List HB → Prop} (hs : FSpec P f args [] fun r h' => ∃ r2 h2, (∀ π ρ v, DenS π ρ r v → DenS π ρ r2 v) ∧ h2.length = h'.length ∧ (∀ k it2, h2[k]? = some it2 → ∃ it, h'[k]? = some it ∧ ∀ π ρ w, HBIs π ρ w k it → HBIs π ρ w k it2) ∧ Q r2 h2) : FSpec P f args [] Q := by
  intro π ρ w vs hh ha
  refine (hs π ρ w vs hh ha).mono ?_
  rintro _ w' ⟨v, π', ρ', r, h', rfl, h2, h3, h4, r2, hh2, h5, h6, h7, h8⟩
  refine ⟨v, π', ρ', r2, hh2, rfl, h5 _ _ _ h2, ⟨fun k it hk => ?_, fun k hk => h3.lt k (by omega), fun k k' g hk hk' => h3.inj k k' g (by omega) (by omega), fun k g hk => h3.apart k g (by omega), h3.pers, fun k hk => h3.out k (by omega)⟩, ⟨h4.os, h4.tape, h4.output, h4.size, h4.block, fun k g hk => h4.fresh k g (by omega), h4.pmono, h4.pfresh, fun k it κ hk => by simp at hk⟩, h8⟩
  obtain ⟨it0, h9, h10⟩ := h7 k it hk
  exact h10 _ _ _ (h3.items k it0 h9)
/-- A slice that is answered, with a row that stays where it is. -/
theorem spec_fix {P : Program} {f : FuncId} {args : List PV} {Q : SV → List HB → Prop} (e : TypeId) (t : Ty) (hs : FSpec P f args [] fun r h' => ∃ xs : List t.T, r = .p (.c (.view t 0 0 xs.length)) ∧ h' = [.row e t xs] ∧ Q (.p (.c (.view (.fix t) 0 0 xs.length))) [.row e (.fix t) xs]) : FSpec P f args [] Q := by
  refine spec_conv (hs.mono ?_)
  rintro r h' ⟨xs, rfl, rfl, hq⟩
  refine ⟨.p (.c (.view (.fix t) 0 0 xs.length)), [.row e (.fix t) xs], fun π ρ v h => h, rfl, fun k it hk => ?_, hq⟩
  cases k with
  | zero => simp only [List.getElem?_cons_zero, Option.some.injEq] at hk; subst hk; exact ⟨_, rfl, fun π ρ w h => h⟩
  | succ k => simp at hk
/-- A struct that is answered, with a slice the row of which may move again. -/
theorem spec_unfixA {P : Program} {f : FuncId} {args : List PV} {Q : SV → List HB → Prop} (e : TypeId) (t : Ty) (hs : FSpec P f args [] fun r h' => ∃ (c : Bool) (xs : List t.T), r = .p (.agg [.bool c, .view (.fix t) 0 0 xs.length]) ∧ h' = [.row e (.fix t) xs] ∧ Q (.p (.agg [.bool c, .view t 0 0 xs.length])) [.row e t xs]) : FSpec P f args [] Q := by
  refine spec_conv (hs.mono ?_)
  rintro r h' ⟨c, xs, rfl, rfl, hq⟩
  refine ⟨.p (.agg [.bool c, .view t 0 0 xs.length]), [.row e t xs], fun π ρ v ⟨us, h1, h2⟩ => ⟨us, h1, ?_⟩, rfl, fun k it hk => ?_, hq⟩
  · match us, h2 with
    | [x, y], h2 => exact ⟨h2.1, (show DenC π ρ (.view t 0 0 xs.length) y from h2.2.1), trivial⟩
  cases k with
  | zero => simp only [List.getElem?_cons_zero, Option.some.injEq] at hk; subst hk; exact ⟨_, rfl, fun π ρ w h => h⟩
  | succ k => simp at hk
def fxC (b : Nat) : CV → CV
  | .view t b' a n => bif Nat.beq b' b then .view (.fix t) b' a n else .view t b' a n
  | c => c
theorem den_fxC {π : Pers} {ρ : Env} (b : Nat) (c : CV) (v : Value) (h : DenC π ρ c v) : DenC π ρ (fxC b c) v := by
  cases c with
  | view t b' a n =>
    simp only [fxC]
    cases Nat.beq b' b with
    | true => exact h
    | false => exact h
  | _ => exact h
def fxH (b j : Nat) : HB → HB
  | .cells T cs => .cells T (cs.map (fxC b))
  | .row e t xs => bif Nat.beq j b then .row e (.fix t) xs else .row e t xs
  | it => it
def fxL (b : Nat) : Nat → List HB → List HB
  | _, [] => []
  | j, it :: r => fxH b j it :: fxL b (j + 1) r
theorem fxL_get {b : Nat} : ∀ {h : List HB} {j k : Nat} {it : HB}, (fxL b j h)[k]? = some it → ∃ x, h[k]? = some x ∧ it = fxH b (j + k) x
  | [], j, k, it, h => by simp [fxL] at h
  | x :: r, j, 0, it, h => by simp only [fxL, List.getElem?_cons_zero, Option.some.injEq] at h; exact ⟨x, rfl, h.symm⟩
  | x :: r, j, k + 1, it, h => by
    simp only [fxL, List.getElem?_cons_succ] at h ⊢
    obtain ⟨y, h1, h2⟩ := fxL_get h
    exact ⟨y, h1, by rw [h2, show j + 1 + k = j + (k + 1) by omega]⟩
theorem fxL_len {b : Nat} : ∀ {h : List HB} {j : Nat}, (fxL b j h).length = h.length
  | [], _ => rfl
  | _ :: r, j => by simp only [fxL, List.length_cons, fxL_len (h := r)]
theorem fxL_get' {b : Nat} : ∀ {h : List HB} {j k : Nat} {x : HB}, h[k]? = some x → (fxL b j h)[k]? = some (fxH b (j + k) x)
  | [], j, k, x, h => by simp at h
  | y :: r, j, 0, x, h => by simp only [List.getElem?_cons_zero, Option.some.injEq] at h; subst h; rfl
  | y :: r, j, k + 1, x, h => by
    simp only [fxL, List.getElem?_cons_succ] at h ⊢
    rw [fxL_get' h, show j + 1 + k = j + (k + 1) by omega]
theorem hb_fxH {π : Pers} {ρ : Env} {w : World} {k b j : Nat} {it : HB} (h : HBIs π ρ w k it) : HBIs π ρ w k (fxH b j it) := by
  cases it with
  | cells T cs =>
    obtain ⟨g, vs, h1, h2, h3⟩ := h
    refine ⟨g, vs, by rw [List.length_map]; exact h1, h2, ?_⟩
    exact all2_map (fun c v hc => den_fxC b c v hc) h3
  | row e t xs =>
    simp only [fxH]
    cases Nat.beq j b with
    | true => exact h
    | false => exact h
  | _ => exact h
/-- The row of the block b stays where it is from now on. -/
theorem W_fix {N : Nat} {P : Program} {c : Code} {s : SS} {Q : Exit → SS → Prop} (b : Nat) (hN : N ≤ b) (h : W N P c { s with hp := fxL b 0 s.hp } Q) : W N P c s Q := by
  intro π ρ a w S
  have hl : (fxL b 0 s.hp).length = s.hp.length := fxL_len
  have H : HSat π ρ (fxL b 0 s.hp) w := by
    refine ⟨fun k it hk => ?_, fun k hk => S.hs.lt k (by omega), fun k k' g hk hk' => S.hs.inj k k' g (by omega) (by omega), fun k g hk => S.hs.apart k g (by omega), S.hs.pers, fun k hk => S.hs.out k (by omega)⟩
    obtain ⟨x, hx, rfl⟩ := fxL_get hk
    exact hb_fxH (S.hs.items k x hx)
  have St : Step N ρ s.hp w π ρ (fxL b 0 s.hp) w π := by
    refine ⟨rfl, rfl, rfl, Nat.le_refl _, fun _ _ _ => rfl, fun k g hk hr => .inl ⟨k, by omega, hr⟩, fun _ _ h => h, fun _ _ h => .inl h, fun k it κ hk hit hκ => ⟨rfl, _, fxL_get' hit, ?_⟩⟩
    cases it with
    | cells T cs => exact hκ
    | row e t xs =>
      simp only [fxH]
      have : Nat.beq (0 + k) b = false := by
        cases hb : Nat.beq (0 + k) b with
        | false => rfl
        | true => have := beq_eq hb; omega
      rw [this]; exact hκ
    | map ka kt va vt es => exact hκ
    | nest e bx fs xs hole => exact hκ
    | gone => exact hκ
  refine wp_mono (h π ρ a w ⟨H, S.fs, S.df, S.nt, S.on⟩) ?_
  rintro x a2 w2 ⟨π2, ρ2, s2, S2, St2, hq⟩
  exact ⟨π2, ρ2, s2, S2, St.trans St2, hq⟩
/-- What is answered beside a number: a slice with a row that stays where it is, if it is read alone from now on. -/
theorem spec_frzT {P : Program} {f : FuncId} {args : List PV} {h : List HB} {Q : SV → List HB → Prop} (b : Nat) (hb : h.length ≤ b) (e : TypeId) (t : Ty) (ht : isFix t = false)
    (hs : FSpec P f args h fun r h' => Q r h' ∨ ∃ (xs : List t.T) (k : IntKind) (n : Int), r = .tup [.c (.view (.fix t) b 0 xs.length), .c (.int k n)] ∧ h'[b]? = some (.row e (.fix t) xs) ∧ Q (.tup [.c (.row t xs), .c (.int k n)]) (goneB [b] 0 (h'.set b (.row e t xs)))) : FSpec P f args h Q := by
  intro π ρ w vs hh ha
  refine (hs π ρ w vs hh ha).mono ?_
  rintro _ w' ⟨v, π', ρ', r, h', rfl, h2, h3, h4, h5⟩
  rcases h5 with h5 | ⟨xs, k, n, rfl, h6, h7⟩
  · exact ⟨v, π', ρ', r, h', rfl, h2, h3, h4, h5⟩
  have hbl := (List.getElem?_eq_some_iff.1 h6).1
  have hget : (h'.set b (.row e t xs))[b]? = some (.row e t xs) := by simp [hbl]
  have H : HSat π' ρ' (h'.set b (.row e t xs)) w' := by
    refine ⟨fun j it hj => ?_, fun j hj => h3.lt j (by simpa using hj), fun j j' g hj hj' => h3.inj j j' g (by simpa using hj) (by simpa using hj'), fun j g hj => h3.apart j g (by simpa using hj), h3.pers, fun j hj => h3.out j (by simpa using hj)⟩
    by_cases hjb : j = b
    · subst hjb
      rw [hget] at hj
      cases hj
      exact h3.items j (.row e (.fix t) xs) h6
    · rw [List.getElem?_set_ne (fun e => hjb e.symm)] at hj
      exact h3.items j it hj
  have St : Step h.length ρ h w π ρ' (h'.set b (.row e t xs)) w' π' := by
    refine ⟨h4.os, h4.tape, h4.output, h4.size, h4.block, fun j g hj => h4.fresh j g (by simpa using hj), h4.pmono, h4.pfresh, fun j it κ hj hit hκ => ?_⟩
    obtain ⟨e1, it', e2, e3⟩ := h4.keep j it κ hj hit hκ
    exact ⟨e1, it', by rw [List.getElem?_set_ne (by omega)]; exact e2, e3⟩
  have S : Sat π' ρ' ⟨0, [], h'.set b (.row e t xs)⟩ (⟨#[], []⟩ : Act) w' := ⟨H, fun i v hi => by simp [lk] at hi, rfl, rfl, rfl⟩
  have hnc : noCells (h'.set b (.row e t xs)) [b] = true := by
    simp only [noCells, Bool.and_true]
    rw [nth_eq, hget]
    cases t <;> first | rfl | cases ht
  obtain ⟨π2, ρ2, S2, St2, hp, hc⟩ := sat_frz (N := h.length) S (bs := [b]) hnc
  obtain ⟨us, rfl, h8⟩ := h2
  match us, h8 with
  | [x, y], h8 =>
    have hbr : brP ⟨0, [], h'.set b (.row e t xs)⟩ (.c (.view t b 0 xs.length)) = some ([0 + xs.length ≤ xs.length], [b], .c (.row t (vw xs 0 xs.length))) := by
      simp only [brP, brC]
      rw [nth_eq, hget]
      simp
    have hx : DenP π2 ρ2 (.c (.row t (vw xs 0 xs.length))) x := hp _ _ (brP_ok S (bs := [b]) (show DenP π' ρ' (.c (.view t b 0 xs.length)) x from h8.1) hbr ⟨by omega, trivial⟩ (fun z hz => hz))
    have hy : DenP π2 ρ2 (.c (.int k n)) y := hc (.int k n) y h8.2.1
    have ev : vw xs 0 xs.length = xs := by simp [vw]
    rw [ev] at hx
    exact ⟨_, π2, ρ2, .tup [.c (.row t xs), .c (.int k n)], _, rfl, ⟨[x, y], rfl, hx, hy, trivial⟩, S2.hs, St.trans St2, h7⟩
/-- A loop that looks at one after the other. -/
theorem W_all {N : Nat} {P : Program} {body : Code} {Q : Exit → SS → Prop} (st : Nat → SS) (n : Nat) (ok : Nat → Prop) (L L1 L2 : List Nat)
    (h : ∀ i, i ≤ n → (∀ j, j < i → ok j) → ∀ K : SS → Prop, (i < n → ok i → K (st (i + 1))) → W N P body (st i) (thenQ (cq N L K) (cQE N L1 L2 Q))) : W N P (.loop body) (st 0) Q := by
  refine W_loopE (N := N) (P := P) (body := body) (Q := Q) st (fun i => i ≤ n ∧ ∀ j, j < i → ok j) (fun i => n - i) L L1 L2 (fun i ⟨hi, ho⟩ => ?_) 0 ⟨Nat.zero_le _, fun j hj => absurd hj (Nat.not_lt_zero _)⟩
  refine h i hi ho _ (fun hlt hok => ⟨i + 1, rfl, ⟨hlt, fun j hj => ?_⟩, by omega⟩)
  rcases Nat.lt_succ_iff_lt_or_eq.1 hj with hj | rfl
  · exact ho j hj
  · exact hok
/-- What is answered: a tuple, if its slices are read alone from now on. -/
theorem spec_frzL {P : Program} {f : FuncId} {args : List PV} {h : List HB} {Q : SV → List HB → Prop} (b0 : Nat) (bs0 : List Nat) (hs : FSpec P f args h fun r h' => Q r h' ∨ (noCells h' (b0 :: bs0) = true ∧ ∃ l ob bs' l', r = .tup l ∧ brA ⟨0, [], h'⟩ [] l = some (ob, bs', l') ∧ allP ob ∧ (∀ x, x ∈ bs' → x ∈ b0 :: bs0) ∧ Q (.tup (l'.map (renP (keepN (b0 :: bs0))))) (goneB (b0 :: bs0) 0 h'))) : FSpec P f args h Q := by
  intro π ρ w vs hh ha
  refine (hs π ρ w vs hh ha).mono ?_
  rintro _ w' ⟨v, π', ρ', r, h', rfl, h2, h3, h4, h5⟩
  rcases h5 with h5 | ⟨h5, l, ob, bs', l', rfl, h6, h7, h8, h9⟩
  · exact ⟨v, π', ρ', r, h', rfl, h2, h3, h4, h5⟩
  have S : Sat π' ρ' ⟨0, [], h'⟩ (⟨#[], []⟩ : Act) w' := ⟨h3, fun i v hi => by simp [lk] at hi, rfl, rfl, rfl⟩
  obtain ⟨π2, ρ2, S2, St2, hp, _⟩ := sat_frz (N := h.length) S h5
  obtain ⟨us, rfl, h10⟩ := h2
  refine ⟨_, π2, ρ2, .tup (l'.map (renP (keepN (b0 :: bs0)))), _, rfl, ⟨us, rfl, ?_⟩, S2.hs, h4.trans St2, h9⟩
  exact all2_map (fun a b hab => hp a b hab) (brA_ok S h10 h6 h7 h8)
def norefC (c : CV) : Bool := (refC c).isNone
def norefP : PV → Bool
  | .c c => norefC c | .agg l => l.all norefC | .clo _ l => l.all norefC
def norefS : SV → Bool
  | .p x => norefP x | .tup l => l.all norefP | .gd _ _ _ => false
theorem den_noref {π : Pers} {ρ ρ' : Env} : ∀ (c : CV) (v : Value), norefC c = true → DenC π ρ c v → DenC π ρ' c v := by
  intro c v hc h
  cases c with
  | ptr b o => cases hc
  | rptr t b i j => cases hc
  | view t b a n => cases hc
  | mp b => cases hc
  | _ => exact h
theorem all2_noref {π : Pers} {ρ ρ' : Env} : ∀ {l : List CV} {vs : List Value}, l.all norefC = true → All2 (DenC π ρ) l vs → All2 (DenC π ρ') l vs
  | [], [], _, _ => trivial
  | c :: l, v :: vs, hn, h => by
    rw [List.all_cons, Bool.and_eq_true] at hn
    exact ⟨den_noref c v hn.1 h.1, all2_noref hn.2 h.2⟩
  | [], _ :: _, _, h => h.elim
  | _ :: _, [], _, h => h.elim
theorem denp_noref {π : Pers} {ρ ρ' : Env} : ∀ (p : PV) (v : Value), norefP p = true → DenP π ρ p v → DenP π ρ' p v
  | .c c, v, hn, h => den_noref c v hn h
  | .agg l, v, hn, ⟨vs, h1, h2⟩ => ⟨vs, h1, all2_noref hn h2⟩
  | .clo f l, v, hn, ⟨vs, h1, h2⟩ => ⟨vs, h1, all2_noref hn h2⟩
theorem all2p_noref {π : Pers} {ρ ρ' : Env} : ∀ {l : List PV} {vs : List Value}, l.all norefP = true → All2 (DenP π ρ) l vs → All2 (DenP π ρ') l vs
  | [], [], _, _ => trivial
  | c :: l, v :: vs, hn, h => by
    rw [List.all_cons, Bool.and_eq_true] at hn
    exact ⟨denp_noref c v hn.1 h.1, all2p_noref hn.2 h.2⟩
  | [], _ :: _, _, h => h.elim
  | _ :: _, [], _, h => h.elim
/-- What is answered leads to no block: none is left. -/
theorem spec_drop {P : Program} {f : FuncId} {args : List PV} {Q : SV → List HB → Prop} (hs : FSpec P f args [] fun r h' => norefS r = true ∧ Q r []) : FSpec P f args [] Q := by
  intro π ρ w vs hh ha
  refine (hs π ρ w vs hh ha).mono ?_
  rintro _ w' ⟨v, π', ρ', r, h', rfl, h2, h3, h4, h5, h6⟩
  refine ⟨v, π', fun _ => none, r, [], rfl, ?_, ⟨fun k it hk => by simp at hk, fun k hk => by simp at hk, fun k k' g hk => by simp at hk, fun k g hk => by simp at hk, h3.pers, fun _ _ => rfl⟩, ⟨h4.os, h4.tape, h4.output, h4.size, h4.block, fun k g hk => by simp at hk, h4.pmono, h4.pfresh, fun k it κ hk => by simp at hk⟩, h6⟩
  cases r with
  | p x => exact denp_noref x v h5 h2
  | tup l => obtain ⟨us, h7, h8⟩ := h2; exact ⟨us, h7, all2p_noref h5 h8⟩
  | gd j b x => exact h2.elim
end Go.Proofs.Ytckijackbldkhaa.Sx
namespace Go.Proofs.Ytckijackbldkhaa.Sx
open Go
set_option linter.unusedVariables false
set_option linter.unusedSimpArgs false

/-- What is asked for ahead of the region id: put back (0, b), or put back and take out (1, b, slot, cell, less). -/
def ghk (id : Nat) (l : List Nat) : Nat × List Bool × Tr := (1000000 + id, unary l, failT)
theorem hsat_nilN {π : Pers} {ρ : Env} {h : List HB} {w : World} (H : HSat π ρ h w) (e : TypeId) (bx : Option TypeId) (fs : List FT) : HSat π ρ (h ++ [.nest e bx fs [] none]) w := by
  have := hsat_new (w' := w) H (.nest e bx fs [] none) none (Nat.le_refl _) (fun _ _ => rfl) (fun g h => h.elim) (.inl ⟨updE_same _ _ _, rfl, rfl⟩)
  have e1 : updE ρ h.length none = ρ := by
    funext k
    by_cases hk : k = h.length
    · subst hk; rw [updE_same, H.out _ (Nat.le_refl _)]
    · exact updE_other ρ none hk
  rw [e1] at this
  exact this
/-- Cell i of block k, where it is nil, is such a row of the block's own. -/
theorem spec_ownHN {P : Program} {f : FuncId} {args : List PV} {h : List HB} {Q : SV → List HB → Prop} (e : TypeId) (bx : Option TypeId) (fs : List FT) (t : Ty) (k i : Nat) (hs : FSpec P f args h fun r h' => Q r h' ∨ Q r (ownH t h'.length k i h' ++ [.nest e bx fs [] none])) : FSpec P f args h Q := by
  intro π ρ w vs hh ha
  refine (hs π ρ w vs hh ha).mono ?_
  rintro _ w' ⟨v, π', ρ', r, h', rfl, h2, h3, h4, h5⟩
  rcases h5 with h5 | h5
  · exact ⟨v, π', ρ', r, h', rfl, h2, h3, h4, h5⟩
  have H := hsat_nilN (hsat_ownH h3 t h'.length k i) e bx fs
  exact ⟨v, π', ρ', _, _, rfl, h2, H, step_nil (step_ownH h4 t h'.length k i) (hsat_ownH h3 t h'.length k i) _, h5⟩
theorem W_ownHN {N : Nat} {P : Program} {c : Code} {s : SS} {Q : Exit → SS → Prop} (e : TypeId) (bx : Option TypeId) (fs : List FT) (t : Ty) (k i : Nat) (h : W N P c { s with hp := ownH t s.hp.length k i s.hp ++ [.nest e bx fs [] none] } Q) : W N P c s Q := by
  intro π ρ a w S
  have H0 := hsat_ownH S.hs t s.hp.length k i
  refine wp_mono (h π ρ a w ⟨hsat_nilN H0 e bx fs, S.fs, S.df, S.nt, S.on⟩) ?_
  rintro x a2 w2 ⟨π2, ρ2, s2, S2, St2, hq⟩
  exact ⟨π2, ρ2, s2, S2, (step_nil (step_ownH (Step.refl N ρ s.hp w π) t s.hp.length k i) H0 _).trans St2, hq⟩
theorem W_ownFN {N : Nat} {P : Program} {c : Code} {s : SS} {Q : Exit → SS → Prop} (e : TypeId) (bx : Option TypeId) (fs : List FT) (t : Ty) (i : Nat) (h : W N P c { s with fr := ownF t s.hp.length i s.fr, hp := s.hp ++ [.nest e bx fs [] none] } Q) : W N P c s Q := by
  intro π ρ a w S
  refine wp_mono (h π ρ a w ⟨hsat_nilN S.hs e bx fs, fun k v hk => ?_, S.df, S.nt, ownF_once S.on⟩) ?_
  · obtain ⟨u, h1, h2⟩ := ownF_lk hk
    have h3 := S.fs k u h1
    rcases h2 with rfl | rfl
    · exact h3
    · exact slot_ownG h3
  · rintro x a2 w2 ⟨π2, ρ2, s2, S2, St2, hq⟩
    exact ⟨π2, ρ2, s2, S2, (step_nil (Step.refl N ρ s.hp w π) S.hs _).trans St2, hq⟩
/-- An element is taken out, is put back: in a state. -/
theorem W_open {N : Nat} {P : Program} {c : Code} {s : SS} {Q : Exit → SS → Prop} (b i : Nat) (h : ∃ ob h', openH s.hp b i = some (ob, h') ∧ allP ob ∧ W N P c { s with hp := h' } Q) : W N P c s Q := by
  obtain ⟨ob, h', ho, hob, h⟩ := h
  intro π ρ a w S
  obtain ⟨ρ1, S1, St1⟩ := sat_open (N := N) S ho hob
  refine wp_mono (h π ρ1 a w S1) ?_
  rintro x a2 w2 ⟨π2, ρ2, s2, S2, St2, hq⟩
  exact ⟨π2, ρ2, s2, S2, St1.trans St2, hq⟩
theorem W_close {N : Nat} {P : Program} {c : Code} {s : SS} {Q : Exit → SS → Prop} (b : Nat) (h : ∃ ob bs h', closeH (some N) s.hp b = some (ob, bs, h') ∧ allP ob ∧ W N P c { s with fr := renF (keepN bs) s.fr, hp := h' } Q) : W N P c s Q := by
  obtain ⟨ob, bs, h', ho, hob, h⟩ := h
  intro π ρ a w S
  obtain ⟨ρ1, S1, St1⟩ := sat_close (N := N) (fun n e => by cases e; exact Nat.le_refl _) S ho hob
  refine wp_mono (h π ρ1 a w S1) ?_
  rintro x a2 w2 ⟨π2, ρ2, s2, S2, St2, hq⟩
  exact ⟨π2, ρ2, s2, S2, St1.trans St2, hq⟩
/-- A slot's slices are read alone from now on. -/
def frzAt (s : SS) (i : Nat) (bs : List Nat) (p : PV) : SS := { nt := s.nt, fr := up (frzS bs s).fr i (.p (renP (keepN bs) p)), hp := (frzS bs s).hp }
theorem sat_frzAt {N : Nat} {π : Pers} {ρ : Env} {s : SS} {a : Act} {w : World} (S : Sat π ρ s a w) {i : Nat} {p p' : PV} {ob : List Prop} {bs : List Nat} (hl : lk s.fr i = some (.p p)) (hb : brP s p = some (ob, bs, p')) (ho : allP ob) (hn : noCells s.hp bs = true) :
    ∃ π' ρ', Sat π' ρ' (frzAt s i bs p') a w ∧ Step N ρ s.hp w π ρ' (frzAt s i bs p').hp w π' := by
  obtain ⟨π', ρ', S', St, hp, _⟩ := sat_frz (N := N) S hn
  obtain ⟨v, h1, h2⟩ := S.fs i _ hl
  have h3 := hp _ _ (brP_ok S h2 hb ho (fun _ h => h))
  have hnt : (frzS bs s).nt = s.nt := by unfold frzS; cases bs <;> rfl
  refine ⟨π', ρ', ⟨S'.hs, fun j x hj => ?_, S'.df, by rw [S'.nt, hnt]; rfl, once_up S'.on⟩, St⟩
  simp only [frzAt, up, lk] at hj
  cases hb2 : Nat.beq i j with
  | true =>
    rw [hb2] at hj
    simp only [cond_true, Option.some.injEq] at hj
    have := beq_eq hb2
    subst this hj
    exact ⟨v, h1, h3⟩
  | false =>
    rw [hb2] at hj
    simp only [cond_false] at hj
    exact S'.fs j x (lk_rm_once S'.on hj)
theorem W_frzE {N : Nat} {P : Program} {c : Code} {s : SS} {Q : Exit → SS → Prop} (i : Nat) (h : W N P c s (fun e t => Q e t ∨ ∃ p ob bs p', lk t.fr i = some (.p p) ∧ brP t p = some (ob, bs, p') ∧ allP ob ∧ noCells t.hp bs = true ∧ Q e (frzAt t i bs p'))) : W N P c s Q := by
  intro π ρ a w S
  refine wp_mono (h π ρ a w S) ?_
  rintro e a2 w2 ⟨π2, ρ2, s2, S2, St2, hq⟩
  rcases hq with hq | ⟨p, ob, bs, p', h1, h2, h3, h4, hq⟩
  · exact ⟨π2, ρ2, s2, S2, St2, hq⟩
  · obtain ⟨π3, ρ3, S3, St3⟩ := sat_frzAt (N := N) S2 h1 h2 h3 h4
    exact ⟨π3, ρ3, _, S3, St2.trans St3, hq⟩
end Go.Proofs.Ytckijackbldkhaa.Sx
