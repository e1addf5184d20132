/- A machine of abstract states over the model, part F: slicing, picking; the operations that only read, in one. No condition. -/
import Derived.Test.YtkpepieepdmjpaaSxE
import Derived.Laws.IdiomStrings
namespace Go.Proofs.Ytkpepieepdmjpaa.Sx
open Go
set_option linter.unusedVariables false
set_option linter.unusedSimpArgs false

def bd : Option PV → Option (Option Int)
  | none => some none
  | some (.c (.int _ i)) => some (some i)
  | _ => none
def bdOb (len : Nat) : Option Int → Option Int → List Prop
  | none, none => []
  | some l, none => [0 ≤ l, l ≤ (len : Int)]
  | none, some h => [0 ≤ h, h ≤ (len : Int)]
  | some l, some h => [0 ≤ l, l ≤ h, h ≤ (len : Int)]
def cutL {α : Type} (xs : List α) : Option Int → Option Int → List α
  | none, none => xs
  | some l, none => xs.drop l.toNat
  | none, some h => xs.take h.toNat
  | some l, some h => (xs.take h.toNat).drop l.toNat
def loN : Option Int → Nat | none => 0 | some l => l.toNat
def hiN (len : Nat) : Option Int → Nat | none => len | some h => h.toNat
def sliceP (P : Program) (t : TypeId) (x : PV) (lo hi : Option PV) : PR :=
  match bd lo, bd hi with
  | some l, some h => match P.underlying t with
    | some .string => match x with
      | .c (.str s) => some (bdOb s.size l h, [], .c (.str (s.extract (loN l) (hiN s.size h))))
      | _ => none
    | some (.slice e) => match szOf P e with
      | some n => match x with
        | .c (.row ty xs) => bif Nat.beq n ty.sz then some (bdOb xs.length l h, [], .c (.row ty (cutL xs l h))) else none
        | .c (.view ty b a m) => bif Nat.beq n ty.sz then some (bdOb m l h, [], .c (.view ty b (a + loN l) (hiN m h - loN l))) else none
        | .c .nils => some (bdOb 0 l h, [], .c .nils)
        | _ => none
      | none => none
    | _ => none
  | _, _ => none
theorem cutL_eq {α : Type} (xs : List α) (l h : Option Int) : cutL xs l h = (xs.take (hiN xs.length h)).drop (loN l) := by
  cases l <;> cases h <;> simp [cutL, hiN, loN]
theorem bd_run {P : Program} {π : Pers} {ρ : Env} {len cap : Nat} (hlc : len ≤ cap) {lo hi : Option PV} {vlo vhi : Option Value} (h1 : ∀ p, lo = some p → ∃ v, vlo = some v ∧ DenP π ρ p v) (h2 : lo = none → vlo = none) (h3 : ∀ p, hi = some p → ∃ v, vhi = some v ∧ DenP π ρ p v) (h4 : hi = none → vhi = none)
    {l h : Option Int} (hl : bd lo = some l) (hh : bd hi = some h) (ho : allP (bdOb len l h)) (b : Bool) :
    (∀ w : World, (Instr.sliceBounds b len cap vlo vhi none).run P w = .ok (loN l, hiN len h, cap) w) ∧ loN l ≤ hiN len h ∧ hiN len h ≤ len := by
  cases lo with
  | none =>
    simp only [bd, Option.some.injEq] at hl
    subst hl
    have hv := h2 rfl
    subst hv
    cases hi with
    | none =>
      simp only [bd, Option.some.injEq] at hh
      subst hh
      have hv := h4 rfl
      subst hv
      refine ⟨by simp [Instr.sliceBounds, loN, hiN], by simp [loN], by simp [hiN]⟩
    | some q =>
      obtain ⟨vq, rfl, hq⟩ := h3 q rfl
      unfold bd at hh
      split at hh
      · rename_i e; cases e
      · rename_i k i e
        cases e
        cases hh
        simp only [DenP, DenC] at hq
        subst hq
        obtain ⟨o1, o2, _⟩ := ho
        have o3 : i ≤ (cap : Int) := by omega
        refine ⟨by cases b <;> simp [Instr.sliceBounds, Instr.sliceBound, asIntOf, loN, hiN, o1, o3], by simp [loN], by simp [hiN]; omega⟩
      · cases hh
  | some p =>
    obtain ⟨vp, rfl, hp⟩ := h1 p rfl
    unfold bd at hl
    split at hl
    · rename_i e; cases e
    · rename_i k j e
      cases e
      cases hl
      simp only [DenP, DenC] at hp
      subst hp
      cases hi with
      | none =>
        simp only [bd, Option.some.injEq] at hh
        subst hh
        have hv := h4 rfl
        subst hv
        obtain ⟨o1, o2, _⟩ := ho
        refine ⟨by cases b <;> simp [Instr.sliceBounds, Instr.sliceBound, asIntOf, loN, hiN, o1, o2], by simp [loN, hiN]; omega, by simp [hiN]⟩
      | some q =>
        obtain ⟨vq, rfl, hq⟩ := h3 q rfl
        unfold bd at hh
        split at hh
        · rename_i e; cases e
        · rename_i k' i e
          cases e
          cases hh
          simp only [DenP, DenC] at hq
          subst hq
          obtain ⟨o1, o2, o4, _⟩ := ho
          have o3 : i ≤ (cap : Int) := by omega
          have o5 : 0 ≤ i := by omega
          have o6 : j ≤ max i 0 := by omega
          refine ⟨by cases b <;> simp [Instr.sliceBounds, Instr.sliceBound, asIntOf, loN, hiN, o1, o3, o5, o6], by simp [loN, hiN]; omega, by simp [hiN]; omega⟩
        · cases hh
    · cases hl
theorem sliceP_ok {P : Program} {π : Pers} {ρ : Env} {t : TypeId} {x : PV} {v : Value} {lo hi : Option PV} {vlo vhi : Option Value} (hx : DenP π ρ x v) (h1 : ∀ p, lo = some p → ∃ v, vlo = some v ∧ DenP π ρ p v) (h2 : lo = none → vlo = none) (h3 : ∀ p, hi = some p → ∃ v, vhi = some v ∧ DenP π ρ p v) (h4 : hi = none → vhi = none)
    {ob fc : List Prop} {r : PV} (h : sliceP P t x lo hi = some (ob, fc, r)) (ho : allP ob) : allP fc ∧ ∃ u, (∀ w : World, (Instr.sliceAt t v vlo vhi none).run P w = .ok u w) ∧ DenP π ρ r u := by
  unfold sliceP at h
  split at h
  · rename_i l hh hl' hh'
    split at h
    · rename_i hu
      split at h
      · rename_i s
        cases h
        obtain ⟨rfl, hs⟩ := hx
        obtain ⟨hr, hle, hle2⟩ := bd_run (P := P) (Nat.le_refl s.size) h1 h2 h3 h4 hl' hh' ho false
        refine ⟨trivial, .string (s.extract (loN l) (hiN s.size hh)), ?_, rfl, ?_⟩
        · simp [Instr.sliceAt, run_underlying hu, Instr.slice, hr]
        · rw [ByteArray.size_extract]; omega
      · cases h
    · rename_i e hu
      split at h
      · rename_i n hn
        split at h
        · rename_i ty xs
          cases hb : Nat.beq n ty.sz with
          | false => rw [hb] at h; cases h
          | true =>
            rw [hb] at h
            cases h
            have := beq_eq hb
            subst this
            obtain ⟨A, c, rfl, h5, h6, h7⟩ := hx
            obtain ⟨hr, hle, hle2⟩ := bd_run (P := P) h5 h1 h2 h3 h4 hl' hh' ho true
            have hlen : (cutL xs l hh).length = hiN xs.length hh - loN l := by rw [cutL_eq, List.length_drop, List.length_take]; omega
            refine ⟨trivial, .slice (if c = loN l then A else A.map (·.add (loN l * ty.sz))) (hiN xs.length hh - loN l) (c - loN l), ?_, (if c = loN l then A else A.map (·.add (loN l * ty.sz))), c - loN l, by rw [hlen], by rw [hlen]; omega, by omega, ?_⟩
            · simp [Instr.sliceAt, run_underlying hu, Instr.slice, hr, run_sizeOf hn]
            · by_cases hnil : cutL xs l hh = []
              · exact .inl hnil
              · have hpos : 0 < (cutL xs l hh).length := List.length_pos_iff.2 hnil
                rw [hlen] at hpos
                have hcl : ¬ (c = loN l) := by omega
                rcases h7 with rfl | ⟨g, o, vs, rfl, h8, h9⟩
                · simp only [List.length_nil] at hle2 hpos; omega
                · refine .inr ⟨g, o + loN l * ty.sz, vs, by simp [hcl, Addr.add_lit], h8, fun i y hi => ?_⟩
                  rw [cutL_eq, List.getElem?_drop, List.getElem?_take] at hi
                  split at hi
                  · have := h9 _ _ hi
                    rwa [show o + (loN l + i) * ty.sz = o + loN l * ty.sz + i * ty.sz by rw [Nat.add_mul]; omega] at this
                  · cases hi
        · rename_i ty b a m
          cases hb : Nat.beq n ty.sz with
          | false => rw [hb] at h; cases h
          | true =>
            rw [hb] at h
            cases h
            have := beq_eq hb
            subst this
            rcases hx with ⟨rfl, A, rfl⟩ | ⟨g, o, m', c, h5, h6, h7, h8, rfl⟩
            · obtain ⟨hr, hle, hle2⟩ := bd_run (P := P) (Nat.le_refl 0) h1 h2 h3 h4 hl' hh' ho true
              have e1 : hiN 0 hh = 0 := by omega
              have e2 : loN l = 0 := by omega
              rw [e1, e2] at hr
              refine ⟨trivial, .slice A 0 0, ?_, .inl ⟨by rw [e1]; simp, A, rfl⟩⟩
              simp [Instr.sliceAt, run_underlying hu, Instr.slice, hr, run_sizeOf hn]
            · obtain ⟨hr, hle, hle2⟩ := bd_run (P := P) h6 h1 h2 h3 h4 hl' hh' ho true
              by_cases hcl : c = loN l
              · subst hcl
                refine ⟨trivial, .slice (some ⟨g, o + a * ty.sz, none⟩) (hiN m hh - loN l) (loN l - loN l), ?_, .inl ⟨by omega, some ⟨g, o + a * ty.sz, none⟩, ?_⟩⟩
                · simp [Instr.sliceAt, run_underlying hu, Instr.slice, hr, run_sizeOf hn]
                · rw [show hiN m hh - loN l = 0 by omega, Nat.sub_self]
              · refine ⟨trivial, .slice (some ⟨g, o + (a + loN l) * ty.sz, none⟩) (hiN m hh - loN l) (c - loN l), ?_, .inr ⟨g, o, m', c - loN l, h5, by omega, by omega, ?_, rfl⟩⟩
                · simp [Instr.sliceAt, run_underlying hu, Instr.slice, hr, run_sizeOf hn, hcl, Addr.add_lit, Nat.add_mul, Nat.add_assoc]
                · rw [show a + loN l + (c - loN l) = a + c by omega]; exact h8
        · cases h
          simp only [DenP, DenC] at hx
          subst hx
          obtain ⟨hr, hle, hle2⟩ := bd_run (P := P) (Nat.le_refl 0) h1 h2 h3 h4 hl' hh' ho true
          have e1 : hiN 0 hh = 0 := by omega
          have e2 : loN l = 0 := by omega
          rw [e1, e2] at hr
          refine ⟨trivial, .slice none 0 0, ?_, rfl⟩
          simp [Instr.sliceAt, run_underlying hu, Instr.slice, hr, run_sizeOf hn]
        · cases h
      · cases h
    · cases h
  · cases h

/-! ### '&&', '||' -/
def pickP (s : SS) (gs : List (Nat × Bool)) (c a b : Operand) : PR :=
  match c, evL s gs c with
  | .tmp j, some (.c (.bool cb)) =>
    match a, b with
    | .const (.bool true), b => match evL s ((j, false) :: gs) b with
      | some (.c (.bool y)) => some ([], [], .c (.bool (cb || y)))
      | _ => bif cb then some ([], [], .c (.bool true)) else none
    | a, .const (.bool false) => match evL s ((j, true) :: gs) a with
      | some (.c (.bool x)) => some ([], [], .c (.bool (cb && x)))
      | _ => bif cb then none else some ([], [], .c (.bool false))
    | _, _ => none
  | _, _ => none
theorem pickP_ok {P : Program} {π : Pers} {ρ : Env} {s : SS} {ac : Act} {w : World} (S : Sat π ρ s ac w) {gs : List (Nat × Bool)} (hg : GH gs ac.tmps) {c a b : Operand} {ob fc : List Prop} {r : PV} (h : pickP s gs c a b = some (ob, fc, r)) :
    allP fc ∧ ∃ u, (∀ w : World, (do pure (.value (if ← asBool (ac.eval c) then ac.eval a else ac.eval b)) : Sem Next).run P w = .ok (.value u) w) ∧ DenP π ρ r u := by
  unfold pickP at h
  split at h
  · rename_i j cb hc
    have hcv := evL_ok S hg hc
    simp only [DenP, DenC] at hcv
    have hj : ac.tmps[j]? = some (.bool cb) := by
      simp only [Act.eval, Array.getD_eq_getD_getElem?] at hcv
      cases hh : ac.tmps[j]? with
      | none => rw [hh] at hcv; simp [undef] at hcv
      | some z => rw [hh] at hcv; simp at hcv; rw [hcv]
    split at h
    · split at h
      · rename_i y hy
        cases h
        refine ⟨trivial, .bool (cb || y), ?_, rfl⟩
        rw [hcv]
        cases cb with
        | true => simp [asBool, Act.eval]
        | false =>
          have := evL_ok S (gh_cons hg hj) hy
          simp only [DenP, DenC] at this
          simp [asBool, this]
      · cases cb with
        | false => cases h
        | true =>
          cases h
          refine ⟨trivial, .bool true, ?_, rfl⟩
          rw [hcv]
          simp [asBool, Act.eval]
    · split at h
      · rename_i y hy
        cases h
        refine ⟨trivial, .bool (cb && y), ?_, rfl⟩
        rw [hcv]
        cases cb with
        | false => simp [asBool, Act.eval]
        | true =>
          have := evL_ok S (gh_cons hg hj) hy
          simp only [DenP, DenC] at this
          simp [asBool, this]
      · cases cb with
        | true => cases h
        | false =>
          cases h
          refine ⟨trivial, .bool false, ?_, rfl⟩
          rw [hcv]
          simp [asBool, Act.eval]
    · cases h
  · cases h

def oneP : Option PV → PR | some p => some ([], [], p) | none => none
def evLo (s : SS) (gs : List (Nat × Bool)) : Option Operand → Option (Option PV)
  | none => some none
  | some x => match evL s gs x with
    | some p => some (some p)
    | none => none
def extP (s : SS) (x : Operand) (ix : Nat) : PR :=
  match x with
  | .tmp t => match lk s.fr t with
    | some (.tup l) => oneP (nth l ix)
    | _ => none
  | _ => none
def mn2 (x y : Int) : Int := if y < x then y else x
def mx2 (x y : Int) : Int := if y > x then y else x
def evCs (s : SS) (gs : List (Nat × Bool)) : List Operand → Option (List CV)
  | [] => some []
  | x :: r => match evL s gs x, evCs s gs r with
    | some (.c c), some cs => some (c :: cs)
    | _, _ => none
theorem evCs_ok {π : Pers} {ρ : Env} {s : SS} {a : Act} {w : World} (S : Sat π ρ s a w) {gs : List (Nat × Bool)} (hg : GH gs a.tmps) : ∀ (l : List Operand) (cs : List CV), evCs s gs l = some cs → All2 (DenC π ρ) cs (l.map a.eval)
  | [], cs, h => by simp only [evCs, Option.some.injEq] at h; subst h; trivial
  | x :: r, cs, h => by
    simp only [evCs] at h
    split at h
    · rename_i c cs' h1 h2
      cases h
      exact ⟨evL_ok S hg h1, evCs_ok S hg r cs' h2⟩
    · cases h
/-- The part of a row that a slice shows. -/
def vw {α : Type} (xs : List α) (a n : Nat) : List α := (xs.drop a).take n
/-! ### texts out of bytes -/
def strOf (xs : List Int) : ByteArray := ⟨(xs.map fun n => UInt8.ofNat n.toNat).toArray⟩
def bytesOf (s : ByteArray) : List Int := s.data.toList.map fun b => (b.toNat : Int)
theorem strOf_size (xs : List Int) : (strOf xs).size = xs.length := by
  show (xs.map fun n => UInt8.ofNat n.toNat).toArray.size = xs.length
  rw [List.size_toArray, List.length_map]
theorem bytesOf_len (s : ByteArray) : (bytesOf s).length = s.size := by
  unfold bytesOf
  rw [List.length_map, Array.length_toList]
  rfl
theorem foldl_strOf : ∀ (xs : List Int) (r : ByteArray), xs.foldl (fun r n => r.push (UInt8.ofNat n.toNat)) r = ⟨r.data ++ (xs.map fun n => UInt8.ofNat n.toNat).toArray⟩
  | [], r => by simp
  | n :: l, r => by
    simp only [List.foldl_cons, List.map_cons]
    rw [foldl_strOf l]
    simp [ByteArray.push]
def isBt (P : Program) (t : TypeId) : Bool := match P.underlying t with
  | some (.slice e) => match P.underlying e with | some (.int .u8) => true | _ => false
  | _ => false
theorem isBt_ok {P : Program} {t : TypeId} (h : isBt P t = true) : ∃ e, P.underlying t = some (.slice e) ∧ P.underlying e = some (.int .u8) := by
  unfold isBt at h
  split at h
  · rename_i e hu
    split at h
    · rename_i he; exact ⟨e, hu, he⟩
    · cases h
  · cases h
theorem isSt_ok {P : Program} {t : TypeId} (h : isSt P t = true) : P.underlying t = some .string := by
  unfold isSt at h
  split at h
  · rename_i hu; exact hu
  · cases h
theorem run_cells_str {P : Program} {w : World} {src dst : TypeId} (hs : isBt P src = true) (hd : isSt P dst = true) (g o n c : Nat) (xs : List Int) (hn : xs.length = n)
    (h : ∀ i x, xs[i]? = some x → w.cell? ⟨g, o + i, none⟩ = some (.int .u8 x)) : (convert src dst (.slice (some ⟨g, o, none⟩) n c)).run P w = .ok (.string (strOf xs)) w := by
  obtain ⟨e, h1, h2⟩ := isBt_ok hs
  rw [run_convert_bytes_string w src dst e _ n c h1 h2 (isSt_ok hd)]
  have hl := run_loadCells_list (P := P) w ⟨g, o, none⟩ (xs.map (Value.int .u8)) (fun j u hj => by
    rw [Addr.add_lit]
    rw [List.getElem?_map, Option.map_eq_some_iff] at hj
    obtain ⟨x, hx, rfl⟩ := hj
    exact h j x hx)
  rw [List.length_map, hn] at hl
  rw [run_bytesToString w _ n c xs hl, foldl_strOf]
  have he0 : ByteArray.empty.data = #[] := rfl
  rw [he0]
  simp [strOf]
theorem run_none_str {P : Program} {w : World} {src dst : TypeId} (hs : isBt P src = true) (hd : isSt P dst = true) (A : Option Addr) : (convert src dst (.slice A 0 0)).run P w = .ok (.string (strOf [])) w := by
  obtain ⟨e, h1, h2⟩ := isBt_ok hs
  cases A with
  | none =>
    rw [run_convert_bytes_string w src dst e _ 0 0 h1 h2 (isSt_ok hd)]
    rfl
  | some a =>
    rw [run_convert_bytes_string w src dst e _ 0 0 h1 h2 (isSt_ok hd)]
    have hl := run_loadCells_list (P := P) w a (([] : List Int).map (Value.int .u8)) (fun j u hj => by simp at hj)
    rw [run_bytesToString w a 0 0 [] hl]
    rfl
/-- A conversion that may read memory: bytes as a text. -/
def cvtP (P : Program) (s : SS) (src dst : TypeId) (x : PV) : PR :=
  match x with
  | .c (.row (.int .u8) xs) => bif isBt P src && isSt P dst then some ([], [], .c (.str (strOf xs))) else none
  | .c (.view (.int .u8) b a n) => match nth s.hp b with
    | some (.row _ (.int .u8) xs) => bif isBt P src && isSt P dst then some ([a + n ≤ xs.length], [], .c (.str (strOf (vw xs a n)))) else none
    | _ => none
  | .c .nils => bif isBt P src && isSt P dst then some ([], [], .c (.str (strOf []))) else none
  | x => convP P src dst x
def isRw : PV → Bool | .c (.row _ _) => true | _ => false
theorem cvtP_ok {P : Program} {π : Pers} {ρ : Env} {s : SS} {a : Act} {w : World} (S : Sat π ρ s a w) {src dst : TypeId} {x : PV} {u : Value} (hx : DenP π ρ x u) {ob fc : List Prop} {r : PV} (h : cvtP P s src dst x = some (ob, fc, r)) (ho : allP ob) :
    allP fc ∧ ∃ z, (∀ w', Alike (pz (isRw x) π) ρ s.hp w w' → (convert src dst u).run P w' = .ok z w') ∧ DenP π ρ r z := by
  unfold cvtP at h
  split at h
  · rename_i xs
    cases hb : (isBt P src && isSt P dst) with
    | false => rw [hb] at h; cases h
    | true =>
      rw [hb] at h
      cases h
      simp only [Bool.and_eq_true] at hb
      obtain ⟨A, c, rfl, h1, h2, h3⟩ := hx
      have hsz : (strOf xs).size ≤ maxI := by rw [strOf_size]; simp only [maxI, maxLen] at h2 ⊢; omega
      rcases h3 with rfl | ⟨g, o, vs, rfl, h4, h5⟩
      · refine ⟨trivial, .string (strOf []), fun w' _ => ?_, rfl, hsz⟩
        have := isBt_ok hb.1
        obtain ⟨e, k1, k2⟩ := this
        cases A with
        | none => rw [run_convert_bytes_string w' src dst e _ _ c k1 k2 (isSt_ok hb.2)]; rfl
        | some ad =>
          rw [run_convert_bytes_string w' src dst e _ _ c k1 k2 (isSt_ok hb.2)]
          have hl := run_loadCells_list (P := P) w' ad (([] : List Int).map (Value.int .u8)) (fun j u hj => by simp at hj)
          exact (run_bytesToString w' ad _ c [] hl).trans rfl
      · refine ⟨trivial, .string (strOf xs), fun w' hw => ?_, rfl, hsz⟩
        refine run_cells_str hb.1 hb.2 g o xs.length c xs rfl (fun i x hi => ?_)
        obtain ⟨e, f, he⟩ := S.hs.pers.1 g vs h4
        have he' := (hw g (.inl (by simp [pz, isRw, h4]))).trans he
        have hr : seg vs.toList (o + i * 1) 1 = [.int .u8 x] := h5 i x hi
        rw [cell_of_row w' g _ vs e f he']
        have := seg_get (l := vs.toList) (o := o + i * 1) (n := 1) (i := 0) (by rw [hr]; rfl)
        simpa using this
  · rename_i b a' n
    split at h
    · rename_i e0 xs hk
      cases hb : (isBt P src && isSt P dst) with
      | false => rw [hb] at h; cases h
      | true =>
        rw [hb] at h
        cases h
        simp only [Bool.and_eq_true] at hb
        obtain ⟨hle, _⟩ := ho
        rw [nth_eq] at hk
        have hlen : (vw xs a' n).length = n := by unfold vw; rw [List.length_take, List.length_drop]; omega
        rcases hx with ⟨h0, A, rfl⟩ | ⟨g, o, m, c, h1, h2, h3, h4, rfl⟩
        · subst h0
          have : vw xs a' 0 = [] := by simp [vw]
          rw [this]
          exact ⟨trivial, .string (strOf []), fun w' _ => run_none_str hb.1 hb.2 A, rfl, by rw [strOf_size]; exact Nat.zero_le _⟩
        · refine ⟨trivial, .string (strOf (vw xs a' n)), fun w' hw => ?_, rfl, by rw [strOf_size, hlen]; simp only [maxI, maxLen] at h3 ⊢; omega⟩
          refine run_cells_str hb.1 hb.2 g _ n c (vw xs a' n) hlen (fun i x hi => ?_)
          have hi' : xs[a' + i]? = some x := by
            unfold vw at hi
            have hin : i < n := by have := (List.getElem?_eq_some_iff.1 hi).1; rw [List.length_take, List.length_drop] at this; omega
            rw [List.getElem?_take, if_pos hin, List.getElem?_drop] at hi
            exact hi
          rcases S.hs.items b _ hk with ⟨q1, _⟩ | ⟨g', o', vs, q1, q2, q3, q4, q5⟩
          · rw [q1] at h1; cases h1
          · rw [q1] at h1
            cases h1
            have q2' := (hw g (.inr ⟨b, _, hk, by simp, own_main q1⟩)).trans q2
            have hr : seg vs.toList (o + (a' + i) * 1) 1 = [.int .u8 x] := q5 (a' + i) x hi'
            rw [cell_of_row w' g _ vs e0 (0, 0) q2']
            have := seg_get (l := vs.toList) (o := o + (a' + i) * 1) (n := 1) (i := 0) (by rw [hr]; rfl)
            show vs[o + a' * 1 + i]? = _
            rw [show o + a' * 1 + i = o + (a' + i) * 1 + 0 by omega]
            simpa using this
    · cases h
  · cases hb : (isBt P src && isSt P dst) with
    | false => rw [hb] at h; cases h
    | true =>
      rw [hb] at h
      cases h
      simp only [Bool.and_eq_true] at hb
      have hx : u = .slice none 0 0 := hx
      subst hx
      exact ⟨trivial, .string (strOf []), fun w' _ => run_none_str hb.1 hb.2 none, rfl, by rw [strOf_size]; exact Nat.zero_le _⟩
  · obtain ⟨h1, z, h2, h3⟩ := convP_ok (P := P) hx h
    exact ⟨h1, z, fun w' _ => h2 w', h3⟩
/-- The operations that only read. -/
def pureOp (P : Program) (s : SS) (gs : List (Nat × Bool)) (o : Oper) : PR :=
  match o.op with
  | .move x => oneP (evL s gs x)
  | .assign x => oneP (evL s gs x)
  | .pick c a b => pickP s gs c a b
  | .load t x => match evL s gs x with | some p => loadC P s t p | none => none
  | .nilCheck x => match evL s gs x with | some p => oneP (nilC p) | none => none
  | .binOp op t x y _ => match evL s gs x, evL s gs y with | some p, some q => binP P op t p q | _, _ => none
  | .unOp op _ x => match evL s gs x with | some p => unP op p | none => none
  | .convert src dst x => match evL s gs x with | some p => cvtP P s src dst p | none => none
  | .slice t x lo hi none => match evL s gs x, evLo s gs lo, evLo s gs hi with | some p, some l, some h => sliceP P t p l h | _, _, _ => none
  | .fieldAddr t x f => match evL s gs x with | some p => fieldAddrC P t f p | none => none
  | .field t x f => match evL s gs x with | some p => fieldC P t f p | none => none
  | .indexAddr t x ix => match evL s gs x, evL s gs ix with | some p, some q => indexAddrC P t p q | _, _ => none
  | .index t x ix => match evL s gs x, evL s gs ix with | some p, some q => indexC P t p q | _, _ => none
  | .extract x ix => extP s x ix
  | .makeFunc (.func f) first captured => match first.toList, evCs s gs captured.toList with | [], some cs => some ([], [], .clo f cs) | _, _ => none
  | .call c => match c.callee, c.args.toList, c.argTypes.toList with
    | .builtin .len, [x], [t] => match evL s gs x with | some p => lenP P t p | none => none
    | .builtin .min, [x, y], _ => match evL s gs x, evL s gs y with
      | some (.c (.int k a)), some (.c (.int _ b)) => some ([], [], .c (.int k (mn2 a b)))
      | _, _ => none
    | .builtin .max, [x, y, z], _ => match evL s gs x, evL s gs y, evL s gs z with
      | some (.c (.int k a)), some (.c (.int _ b)), some (.c (.int _ c)) => some ([], [], .c (.int k (mx2 (mx2 a b) c)))
      | _, _, _ => none
    | .builtin .max, [x, y], _ => match evL s gs x, evL s gs y with
      | some (.c (.int k a)), some (.c (.int _ b)) => some ([], [], .c (.int k (mx2 a b)))
      | _, _ => none
    | _, _, _ => none
  | _ => none
/-- Whether the operation reads what lasts. -/
def eL (s : SS) (gs : List (Nat × Bool)) (o : Oper) : Bool :=
  match o.op with
  | .load _ x => match evL s gs x with | some p => isEp p | none => false
  | .convert _ _ x => match evL s gs x with | some p => isRw p | none => false
  | _ => false
theorem vrun {P : Program} {w w' : World} {s : Sem Value} {u : Value} (h : s.run P w = .ok u w') : (do pure (.value (← s)) : Sem Next).run P w = .ok (.value u) w' := by
  simp [h]
theorem arr_of_list {α : Type} {a : Array α} {l : List α} (h : a.toList = l) : a = l.toArray := by rw [← h]
theorem pureOp_u {P : Program} {π : Pers} {ρ : Env} {s : SS} {a : Act} {w : World} (S : Sat π ρ s a w) {gs : List (Nat × Bool)} (hg : GH gs a.tmps) {o : Oper} {ob fc : List Prop} {r : PV} (h : pureOp P s gs o = some (ob, fc, r)) (ho : allP ob) :
    allP fc ∧ ∃ u, (∀ w', Alike (pz (eL s gs o) π) ρ s.hp w w' → (execOp a.eval o).run P w' = .ok (.value u) w') ∧ DenP π ρ r u := by
  have key : ∀ {q : Option PV} {ob fc : List Prop} {r : PV}, oneP q = some (ob, fc, r) → q = some r ∧ allP fc := by
    intro q ob fc r hq
    unfold oneP at hq
    split at hq
    · cases hq; exact ⟨rfl, trivial⟩
    · cases hq
  unfold pureOp at h
  unfold execOp
  split at h
  all_goals try (rename_i heq; rw [heq])
  · obtain ⟨h1, h2⟩ := key h
    exact ⟨h2, _, fun _ _ => rfl, evL_ok S hg h1⟩
  · obtain ⟨h1, h2⟩ := key h
    exact ⟨h2, _, fun _ _ => rfl, evL_ok S hg h1⟩
  · obtain ⟨h1, u, h2, h3⟩ := pickP_ok (P := P) S hg h
    exact ⟨h1, u, fun w' _ => h2 w', h3⟩
  · split at h
    · rename_i p hp
      obtain ⟨h1, u, h2, h3⟩ := loadC_ok (P := P) S (evL_ok S hg hp) h ho
      exact ⟨h1, u, fun w' hw => vrun (h2 w' (by simpa only [eL, heq, hp] using hw)), h3⟩
    · cases h
  · rename_i xo
    split at h
    · rename_i p hp
      obtain ⟨h1, h2⟩ := key h
      have hd := evL_ok S hg hp
      clear hp
      revert hd
      show DenP π ρ p (a.eval xo) → _
      dsimp only
      generalize a.eval xo = z
      intro hd
      unfold nilC at h1
      split at h1 <;> cases h1
      · obtain ⟨g, o, n, hr, hv⟩ := id hd; subst hv; exact ⟨h2, _, fun _ _ => rfl, hd⟩
      · obtain ⟨g, o, n, hr, hv⟩ := id hd; subst hv; exact ⟨h2, _, fun _ _ => rfl, hd⟩
      · obtain ⟨g, o, n, hr, hr2, hv⟩ := id hd; subst hv; exact ⟨h2, _, fun _ _ => rfl, hd⟩
      · have hv : z = _ := hd; subst hv; exact ⟨h2, _, fun _ _ => rfl, hd⟩
      · obtain ⟨vs, hv, hvs⟩ := id hd; subst hv; exact ⟨h2, _, fun _ _ => rfl, hd⟩
    · cases h
  · split at h
    · rename_i p q hp hq
      obtain ⟨h1, u, h2, h3⟩ := binP_ok (P := P) (evL_ok S hg hp) (evL_ok S hg hq) h ho _ _
      exact ⟨h1, u, fun w' _ => vrun (h2 w'), h3⟩
    · cases h
  · split at h
    · rename_i p hp
      obtain ⟨h1, u, h2, h3⟩ := unP_ok (P := P) (evL_ok S hg hp) h
      exact ⟨h1, u, fun w' _ => vrun (h2 w'), h3⟩
    · cases h
  · split at h
    · rename_i p hp
      obtain ⟨h1, u, h2, h3⟩ := cvtP_ok (P := P) S (evL_ok S hg hp) h ho
      exact ⟨h1, u, fun w' hw => vrun (h2 w' (by simpa only [eL, heq, hp] using hw)), h3⟩
    · cases h
  · split at h
    · rename_i p l hh hp hl hh'
      have k1 : ∀ {q : Option Operand} {z : Option PV}, evLo s gs q = some z → (∀ p, z = some p → ∃ v, q.map a.eval = some v ∧ DenP π ρ p v) ∧ (z = none → q.map a.eval = none) := by
        intro q z hq
        cases q with
        | none => simp only [evLo, Option.some.injEq] at hq; subst hq; exact ⟨fun p hp => (by cases hp), fun _ => rfl⟩
        | some y =>
          simp only [evLo] at hq
          split at hq
          · rename_i p' hp'
            cases hq
            exact ⟨fun p hp => (by cases hp; exact ⟨_, rfl, evL_ok S hg hp'⟩), fun h => (by cases h)⟩
          · cases hq
      obtain ⟨h1, u, h2, h3⟩ := sliceP_ok (P := P) (evL_ok S hg hp) (k1 hl).1 (k1 hl).2 (k1 hh').1 (k1 hh').2 h ho
      exact ⟨h1, u, fun w' _ => vrun (h2 w'), h3⟩
    · cases h
  · split at h
    · rename_i p hp
      obtain ⟨h1, u, h2, h3⟩ := fieldAddrC_ok (P := P) (evL_ok S hg hp) h
      exact ⟨h1, u, fun w' _ => vrun (h2 w'), h3⟩
    · cases h
  · split at h
    · rename_i p hp
      obtain ⟨h1, u, h2, h3⟩ := fieldC_ok (P := P) (evL_ok S hg hp) h
      exact ⟨h1, u, fun w' _ => vrun (h2 w'), h3⟩
    · cases h
  · split at h
    · rename_i p q hp hq
      obtain ⟨h1, u, h2, h3⟩ := indexAddrC_ok (P := P) (evL_ok S hg hp) (evL_ok S hg hq) h ho
      exact ⟨h1, u, fun w' _ => vrun (h2 w'), h3⟩
    · cases h
  · split at h
    · rename_i p q hp hq
      obtain ⟨h1, u, h2, h3⟩ := indexC_ok (P := P) (evL_ok S hg hp) (evL_ok S hg hq) h ho
      exact ⟨h1, u, fun w' _ => vrun (h2 w'), h3⟩
    · cases h
  · unfold extP at h
    split at h
    · rename_i t
      split at h
      · rename_i l hl
        obtain ⟨h1, h2⟩ := key h
        obtain ⟨v, h3, vs, rfl, h4⟩ := S.fs t _ hl
        rw [nth_eq] at h1
        obtain ⟨u, hu, hd⟩ := all2_get h4 _ _ h1
        refine ⟨h2, u, fun w' _ => vrun ?_, hd⟩
        simp [Act.eval, Array.getD_eq_getD_getElem?, h3, Instr.extract, hu]
      · cases h
    · cases h
  · rename_i f first captured
    split at h
    · rename_i cs hf hcs
      cases h
      refine ⟨trivial, _, fun w' _ => vrun rfl, _, ?_, evCs_ok S hg _ _ hcs⟩
      rw [arr_of_list hf]
      simp only [List.map_toArray, List.map_nil]
      congr 1
      apply Array.ext'; simp
    · cases h
  · rename_i c
    obtain ⟨callee, args, argTypes⟩ := c
    simp only at h
    split at h
    · rename_i x t ha ht
      rw [arr_of_list ha, arr_of_list ht]
      split at h
      · rename_i p hp
        obtain ⟨h1, u, h2, h3⟩ := lenP_ok (P := P) (ty := o.type) (evL_ok S hg hp) h
        refine ⟨h1, u, ?_, h3⟩
        simp [resolve, invoke, builtin, h2]
      · cases h
    · rename_i x y ha
      rw [arr_of_list ha]
      split at h
      · rename_i k i k' j hp hq
        cases h
        have e1 := evL_ok S hg hp
        have e2 := evL_ok S hg hq
        simp only [DenP, DenC] at e1 e2
        refine ⟨trivial, .int k (mn2 i j), ?_, rfl⟩
        simp [resolve, invoke, builtin, Builtin.min_, Builtin.min2, e1, e2, mn2]
      · cases h
    · rename_i x y z ha
      rw [arr_of_list ha]
      split at h
      · rename_i k i k' j k'' l hp hq hq'
        cases h
        have e1 := evL_ok S hg hp
        have e2 := evL_ok S hg hq
        have e3 := evL_ok S hg hq'
        simp only [DenP, DenC] at e1 e2 e3
        refine ⟨trivial, .int k (mx2 (mx2 i j) l), ?_, rfl⟩
        simp [resolve, invoke, builtin, Builtin.max_, Builtin.max2, e1, e2, e3, mx2]
      · cases h
    · rename_i x y ha
      rw [arr_of_list ha]
      split at h
      · rename_i k i k' j hp hq
        cases h
        have e1 := evL_ok S hg hp
        have e2 := evL_ok S hg hq
        simp only [DenP, DenC] at e1 e2
        refine ⟨trivial, .int k (mx2 i j), ?_, rfl⟩
        simp [resolve, invoke, builtin, Builtin.max_, Builtin.max2, e1, e2, mx2]
      · cases h
    · cases h
  · cases h
theorem pureOp_ok {P : Program} {π : Pers} {ρ : Env} {s : SS} {a : Act} {w : World} (S : Sat π ρ s a w) {gs : List (Nat × Bool)} (hg : GH gs a.tmps) {o : Oper} {ob fc : List Prop} {r : PV} (h : pureOp P s gs o = some (ob, fc, r)) (ho : allP ob) :
    allP fc ∧ ∃ u, (execOp a.eval o).run P w = .ok (.value u) w ∧ DenP π ρ r u := by
  obtain ⟨h1, u, h2, h3⟩ := pureOp_u S hg h ho
  exact ⟨h1, u, h2 w (Alike.refl _ _ _ _), h3⟩
end Go.Proofs.Ytkpepieepdmjpaa.Sx
