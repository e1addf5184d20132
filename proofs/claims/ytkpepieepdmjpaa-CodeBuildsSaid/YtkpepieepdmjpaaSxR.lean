/- A machine of abstract states over the model, part R: a law's arguments, and what a law's end must say. No condition. -/
import Derived.Test.YtkpepieepdmjpaaSxQ
import Derived.WalkKit
import Derived.ProofKit
import Derived.OpenShut
import Derived.ShutString
import Derived.ChangeOld
import Derived.Below
import Derived.SizedLaws
import Derived.Carry
import Derived.Deep.Slices
import Derived.ChangeArms
import Derived.Deep.MidRow
namespace Go.Proofs.Ytkpepieepdmjpaa.Sx
open Go Go.RowKit Go.ChangeShapes Go.WideShapes
set_option linter.unusedVariables false
set_option linter.unusedSimpArgs false

/-- Data as it may come in. -/
def wfT : (t : Ty) → t.T → Prop
  | .int k, n => (Lit.int k n).wf = true
  | .bool, _ => True
  | .str, s => s.size ≤ 140737488351232
  | .unit, _ => True
  | .prod a b, x => wfT a x.1 ∧ wfT b x.2
  | .row t, xs => xs.length ≤ 140737488351232 ∧ ∀ x ∈ xs, wfT t x
  | .fix t, x => wfT t x
def isFs (P : Program) (rec : TypeId → Ty → Bool) : List Field → Ty → Nat → Bool
  | [], .unit, _ => true
  | [f], t, off => Nat.beq f.offset off && Nat.beq (P.cellsOf f.type) t.sz && rec f.type t
  | f :: g :: r, .prod a b, off => Nat.beq f.offset off && Nat.beq (P.cellsOf f.type) a.sz && rec f.type a && isFs P rec (g :: r) b (off + a.sz)
  | _, _, _ => false
def isTy (P : Program) : Nat → TypeId → Ty → Bool
  | 0, _, _ => false
  | k + 1, T, ty => match P.underlying T, ty with
    | some (.int kd), .int k' => decide (k' = kd)
    | some .bool, .bool => true
    | some .string, .str => true
    | some (.slice e), .row u => isTy P k e u && Nat.beq (P.cellsOf e) u.sz && Nat.ble 1 (P.bytesOf e) && Nat.ble 1 u.sz
    | some (.struct fs), ty => isFs P (isTy P k) fs.toList ty 0 && Nat.beq (P.cellsOf T) ty.sz
    | _, _ => false
def piOf (w : World) : Pers := fun g => match w.heap[g]? with | some (.cells vs _ _) => some vs | _ => none
theorem pi_some {w : World} {g : Nat} {vs : Array Value} (h : piOf w g = some vs) : ∃ e f, w.heap[g]? = some (.cells vs e f) := by
  unfold piOf at h
  cases hh : w.heap[g]? with
  | none => rw [hh] at h; cases h
  | some o =>
    rw [hh] at h
    cases o with
    | cells vs' e f => cases h; exact ⟨e, f, rfl⟩
    | _ => cases h
theorem hsat_pi (w : World) (hg : GOk (piOf w)) : HSat (piOf w) (fun _ => none) [] w :=
  ⟨fun k it h => by simp at h, fun k h => by simp at h, fun k k' g h => by simp at h, fun k g h => by simp at h, ⟨fun g vs h => pi_some h, hg⟩, fun _ _ => rfl⟩
section
variable {P : Program} {H : Type} {enc : TypeId × Value → H} {w : World}
def OpensTo (P : Program) (enc : TypeId × Value → H) (w : World) (T : TypeId) (ty : Ty) : Prop :=
  ∀ (fuel : Nat) (cs : List Value) (x : DataW H × List MemPlace), DataW.trod enc P w 0 (fun _ => true) true fuel T cs = some x → (∀ n ∈ x.1.weights P T, n ≤ reachBytes) → ∃ y, Rep (piOf w) ty y cs ∧ wfT ty y
theorem opens_fs {rec : TypeId → Ty → Bool} (hrec : ∀ T ty, rec T ty = true → OpensTo P enc w T ty) : ∀ (fs : List Field) (ty : Ty) (off : Nat) (cs : List Value), isFs P rec fs ty off = true →
    (∀ f, f ∈ fs → ∃ (n : Nat) (y : DataW H × List MemPlace), DataW.trod enc P w 0 (fun _ => true) true n f.type ((cs.drop f.offset).take (P.cellsOf f.type)) = some y ∧ ∀ q ∈ y.1.weights P f.type, q ≤ reachBytes) →
    ∃ y, Rep (piOf w) ty y ((cs.drop off).take ty.sz) ∧ wfT ty y
  | [], ty, off, cs, h, _ => by
    cases ty with
    | unit => exact ⟨(), by simp [Rep, Ty.sz], trivial⟩
    | _ => simp [isFs] at h
  | [f], ty, off, cs, h, hf => by
    simp only [isFs, Bool.and_eq_true] at h
    obtain ⟨⟨h1, h2⟩, h3⟩ := h
    obtain ⟨n, y, hy, hw⟩ := hf f (by simp)
    rw [beq_eq h1, beq_eq h2] at hy
    exact hrec _ _ h3 n _ y hy hw
  | f :: g :: r, ty, off, cs, h, hf => by
    cases ty with
    | prod a b =>
      simp only [isFs, Bool.and_eq_true] at h
      obtain ⟨⟨⟨h1, h2⟩, h3⟩, h4⟩ := h
      obtain ⟨n, y, hy, hw⟩ := hf f (by simp)
      rw [beq_eq h1, beq_eq h2] at hy
      obtain ⟨ya, ra, wa⟩ := hrec _ _ h3 n _ y hy hw
      obtain ⟨yb, rb, wb⟩ := opens_fs hrec (g :: r) b (off + a.sz) cs h4 (fun f' hf' => hf f' (List.mem_cons_of_mem _ hf'))
      refine ⟨(ya, yb), ⟨_, _, ?_, ra, rb⟩, wa, wb⟩
      show (cs.drop off).take (a.sz + b.sz) = _
      rw [List.take_add, List.drop_drop]
    | _ => simp [isFs] at h
theorem w_all {e : TypeId} : ∀ {l : List (DataW H)} {y : DataW H}, y ∈ l → ∀ n ∈ y.weights P e, n ∈ DataW.weightsAll P e l
  | a :: l, y, hy, n, hn => by
    simp only [DataW.weightsAll, List.mem_append]
    rcases List.mem_cons.1 hy with rfl | hy
    · exact Or.inl hn
    · exact Or.inr (w_all hy n hn)
theorem opens_ty : ∀ (k : Nat) (T : TypeId) (ty : Ty), isTy P k T ty = true → OpensTo P enc w T ty
  | 0, _, _, h => by simp [isTy] at h
  | k + 1, T, ty, h => by
    intro fuel cs x hx hw
    simp only [isTy] at h
    split at h
    · rename_i kd k' hu
      have := of_decide_eq_true h
      subst this
      obtain ⟨n, rfl, _, hn⟩ := DataW.trod_int hu hx
      exact ⟨n, rfl, hn⟩
    · rename_i hu
      obtain ⟨n, rfl, _⟩ := DataW.trod_bool hu hx
      exact ⟨n, rfl, trivial⟩
    · rename_i hu
      obtain ⟨s, rfl, rfl, _⟩ := DataW.trod_string hu hx
      have h1 := hw s.data.toList.length (by simp [DataW.weights])
      have h2 : reachBytes = 140737488351232 := by decide
      rw [h2] at h1
      have h3 : s.size ≤ 140737488351232 := by simpa using h1
      exact ⟨s, ⟨rfl, Nat.le_trans h3 (by decide)⟩, h3⟩
    · rename_i e u hu
      simp only [Bool.and_eq_true] at h
      obtain ⟨⟨⟨he, hc⟩, hb⟩, hz⟩ := h
      have hc := beq_eq hc
      have hb := Nat.le_of_ble_eq_true hb
      have hz := Nat.le_of_ble_eq_true hz
      have ih := opens_ty k e u he
      rcases Deep.open_slice hu hx with ⟨rfl, rfl⟩ | ⟨a, len, cap, m, n, D, Pl, rfl, _, hl, hm, hmm, rfl, hel⟩
      · exact ⟨([] : List u.T), ⟨_, rfl, none, 0, rfl, Nat.le_refl _, by simp [maxLen], .inl rfl⟩, by simp, fun x hx => by simp at hx⟩
      · have hm' : m = cap := by simpa using hmm
        subst hm'
        have h2 : reachBytes = 140737488351232 := by decide
        have hws : ∀ n ∈ (DataW.slice ((List.range len).map D) ((List.range (m - len)).map fun j => D (len + j))).weights P T, n ≤ reachBytes := hw
        simp only [DataW.weights, hu] at hws
        have hsz := hws _ (List.mem_cons_self)
        rw [h2] at hsz
        simp only [List.length_map, List.length_range] at hsz
        have hcl : ∀ i, i < len → ∃ vs e' f', w.heap[a.block]? = some (.cells vs e' f') ∧ (i = 0 → a.spot = none) := by
          intro i hi
          obtain ⟨cs', h1, h3⟩ := hel i (by omega)
          obtain ⟨_, hlen, hcell⟩ := World.cells?_some h1
          rw [hc] at hlen hcell
          have h0 := hcell 0 hz
          rw [List.getElem?_eq_getElem (by omega)] at h0
          have hbl : ((a.add (i * u.sz)).add 0).block = a.block := by unfold Addr.add; split <;> split <;> rfl
          unfold World.cell? at h0
          split at h0
          · rename_i vs e' f' hh
            rw [hbl] at hh
            split at h0
            · cases h0
            · rename_i hsp
              refine ⟨vs, e', f', hh, fun hi0 => ?_⟩
              subst hi0
              have : ((a.add (0 * u.sz)).add 0) = a := by simp [Addr.add]
              rw [this] at hsp
              cases hs : a.spot with
              | none => rfl
              | some z => rw [hs] at hsp; exact absurd rfl hsp
          · cases h0
        have pick : ∀ i, i < len → ∃ y, (∃ g vs, a.spot = none ∧ a.block = g ∧ piOf w g = some vs ∧ Rep (piOf w) u y (seg vs.toList (a.off + i * u.sz) u.sz)) ∧ wfT u y := by
          intro i hi
          obtain ⟨vs, e', f', hblk, _⟩ := hcl i hi
          have hsp : a.spot = none := by obtain ⟨_, _, _, _, h⟩ := hcl 0 (by omega); exact h rfl
          obtain ⟨cs', h1, h3⟩ := hel i (by omega)
          obtain ⟨_, hlen, hcell⟩ := World.cells?_some h1
          obtain ⟨y, hy, hyw⟩ := ih n cs' _ h3 (fun q hq => hws q (List.mem_cons_of_mem _ (List.mem_append_left _ (w_all (y := D i) (by simp; exact ⟨i, hi, rfl⟩) q hq))))
          rw [hc] at hlen hcell
          refine ⟨y, ⟨a.block, vs, hsp, rfl, by simp [piOf, hblk], ?_⟩, hyw⟩
          have : cs' = seg vs.toList (a.off + i * u.sz) u.sz := by
            apply List.ext_getElem?
            intro j
            unfold seg
            rw [List.getElem?_take]
            by_cases hj : j < u.sz
            · have hq := hcell j hj
              have he : (a.add (i * u.sz)).add j = ⟨a.block, a.off + i * u.sz + j, none⟩ := by
                obtain ⟨b, o, sp⟩ := a
                have hsp' : sp = none := hsp
                subst hsp'
                rw [Addr.add_mid, Addr.add_mid]
              rw [he] at hq
              unfold World.cell? at hq
              simp only [hblk, Option.isSome_none] at hq
              have hq' : vs.toList[a.off + i * u.sz + j]? = cs'[j]? := by simpa using hq
              rw [if_pos hj, List.getElem?_drop]
              exact hq'.symm
            · rw [if_neg hj, List.getElem?_eq_none (by omega)]
          rw [← this]; exact hy
        have hY : ∃ Y : Nat → Option u.T, ∀ i, i < len → ∃ y, Y i = some y ∧ (∃ g vs, a.spot = none ∧ a.block = g ∧ piOf w g = some vs ∧ Rep (piOf w) u y (seg vs.toList (a.off + i * u.sz) u.sz)) ∧ wfT u y := by
          refine ⟨fun i => if hi : i < len then some (Classical.choose (pick i hi)) else none, fun i hi => ⟨_, dif_pos hi, Classical.choose_spec (pick i hi)⟩⟩
        obtain ⟨Y, hY⟩ := hY
        have hlen : ((List.range len).filterMap Y).length = len ∧ ∀ i, i < len → ((List.range len).filterMap Y)[i]? = Y i := by
          clear hsz hws hw hx hel pick hl hm hcl
          induction len with
          | zero => exact ⟨rfl, fun i hi => by omega⟩
          | succ q ih =>
            obtain ⟨i1, i2⟩ := ih (by simp) (fun i hi => hY i (by omega))
            obtain ⟨y, hy, _⟩ := hY q (by omega)
            rw [List.range_succ, List.filterMap_append]
            simp only [List.filterMap_cons, hy, List.filterMap_nil]
            refine ⟨by simp [i1], fun i hi => ?_⟩
            by_cases hq : i < q
            · rw [List.getElem?_append_left (by omega), i2 i hq]
            · have : i = q := by omega
              subst this
              rw [List.getElem?_append_right (by omega), i1]
              simp [hy]
        obtain ⟨hl1, hl2⟩ := hlen
        have hmx : len ≤ 140737488351232 := by
          have h5 : m * 1 ≤ m * P.bytesOf e := Nat.mul_le_mul_left _ hb
          have h6 : len + (m - len) = m := by omega
          rw [h6] at hsz
          omega
        refine ⟨(List.range len).filterMap Y, ⟨_, rfl, some a, m, by rw [hl1], by rw [hl1]; exact hl, hm, ?_⟩, by rw [hl1]; exact hmx, ?_⟩
        · rcases Nat.eq_zero_or_pos len with h0 | h0
          · left; exact List.eq_nil_of_length_eq_zero (by rw [hl1, h0])
          · right
            obtain ⟨y0, hy0, ⟨g, vs, hs, hg, hp, _⟩, _⟩ := hY 0 h0
            refine ⟨g, a.off, vs, ?_, hp, ?_⟩
            · obtain ⟨b, o, sp⟩ := a
              have h1 : sp = none := hs
              have h2 : b = g := hg
              subst h1; subst h2; rfl
            · intro i x hi
              have hjl : i < len := by have := (List.getElem?_eq_some_iff.1 hi).1; omega
              obtain ⟨y, hy, ⟨g', vs', _, hg', hp', hr⟩, _⟩ := hY i hjl
              rw [hl2 i hjl, hy] at hi
              cases hi
              rw [← hg', hg, hp] at hp'
              cases hp'
              exact hr
        · intro z hz
          obtain ⟨j, hj⟩ := List.mem_iff_getElem?.1 hz
          have hjl : j < len := by have := (List.getElem?_eq_some_iff.1 hj).1; omega
          obtain ⟨y, hy, _, c4⟩ := hY j hjl
          rw [hl2 j hjl, hy] at hj
          cases hj
          exact c4
    · rename_i ty _ _ fs hu
      simp only [Bool.and_eq_true] at h
      obtain ⟨h1, h2⟩ := h
      have hsz := beq_eq h2
      obtain ⟨xs, n, rfl, rfl, hl, hlen, hf⟩ := DataW.trod_struct hu hx
      have := opens_fs (P := P) (enc := enc) (w := w) (fun T ty h => opens_ty k T ty h) fs.toList ty 0 cs h1 (fun f hfm => by
        obtain ⟨i, hfi⟩ := List.mem_iff_getElem?.1 hfm
        rw [Array.getElem?_toList] at hfi
        have hi : i < xs.length := by
          have := (Array.getElem?_eq_some_iff.1 hfi).1
          omega
        have h1 := hf i f hfi
        rw [List.getElem?_eq_getElem hi] at h1
        refine ⟨n, xs[i], h1, fun q hq => hw q ?_⟩
        show q ∈ (DataW.agg (xs.map (·.1))).weights P T
        simp only [DataW.weights, hu]
        refine DataW.weights_mem_each (j := i) (t := f.type) (d := xs[i].1) ?_ ?_ q hq
        · rw [List.getElem?_map, Array.getElem?_toList, hfi]; rfl
        · rw [List.getElem?_map, List.getElem?_eq_getElem hi]; rfl)
      obtain ⟨y, hy, hyw⟩ := this
      refine ⟨y, ?_, hyw⟩
      rw [List.drop_zero, List.take_of_length_le (by omega)] at hy
      exact hy
    · cases h
/-- An argument, as it is handed over. -/
def pvOf (P : Program) (T : TypeId) : (t : Ty) → t.T → PV := fun t x => match P.underlying T with
  | some (.struct _) => .agg (toCV t x)
  | _ => match toCV t x with | [c] => .c c | _ => .c .junk
abbrev TL : List Ty → Type
  | [] => Unit
  | t :: r => t.T × TL r
def pvL (P : Program) : List TypeId → (l : List Ty) → TL l → List PV
  | T :: Ts, t :: r, x => pvOf P T t x.1 :: pvL P Ts r x.2
  | _, _, _ => []
def wfTL : (l : List Ty) → TL l → Prop
  | [], _ => True
  | t :: r, x => wfT t x.1 ∧ wfTL r x.2
def isTys (P : Program) (k : Nat) : List TypeId → List Ty → Bool
  | [], [] => true
  | T :: Ts, t :: ts => isTy P k T t && isTys P k Ts ts
  | _, _ => false
theorem rep_cell {π : Pers} {t : Ty} {x : t.T} {v : Value} (h : Rep π t x [v]) : ∀ {ρ : Env} {y : CV}, toCV t x = [y] → DenC π ρ y v := by
  intro ρ y hy
  have := toCV_ok (ρ := ρ) t x _ h
  rw [hy] at this
  exact this.1
theorem open_arg {k : Nat} {T : TypeId} {ty : Ty} (ht : isTy P k T ty = true) {r : Reach} {base : Nat} {v : Value} (hv : Value.okWide P w r base T v) {d : DataW H} {ps : List MemPlace} (h : DataW.Trod enc P w 0 (fun _ => true) true T v d ps) (hz : ∀ n ∈ d.weights P T, n ≤ reachBytes) (ρ : Env) :
    ∃ y, DenP (piOf w) ρ (pvOf P T ty y) v ∧ wfT ty y := by
  obtain ⟨fuel, hf⟩ := h
  obtain ⟨y, hr, hw⟩ := opens_ty k T ty ht fuel _ _ hf hz
  refine ⟨y, ?_, hw⟩
  cases k with
  | zero => simp [isTy] at ht
  | succ k =>
    simp only [isTy] at ht
    unfold pvOf
    split at ht
    · rename_i kd k' hu
      obtain ⟨n, rfl⟩ := okWide_int hu hv
      rw [hu]
      exact rep_cell (ρ := ρ) (t := .int k') hr rfl
    · rename_i hu
      obtain ⟨n, rfl⟩ := okWide_bool hu hv
      rw [hu]
      exact rep_cell (ρ := ρ) (t := .bool) hr rfl
    · rename_i hu
      obtain ⟨n, rfl⟩ := okWide_string hu hv
      rw [hu]
      exact rep_cell (ρ := ρ) (t := .str) hr rfl
    · rename_i e u hu
      obtain ⟨a, l, c, rfl⟩ := okWide_slice hu hv
      rw [hu]
      exact rep_cell (ρ := ρ) (t := .row u) hr rfl
    · rename_i ty _ _ fs hu
      obtain ⟨cs, rfl, _⟩ := okWide_struct hu hv
      have hcs : (Value.agg cs).cells.toList = cs.toList := rfl
      rw [hcs] at hr
      rw [hu]
      exact ⟨cs.toList, by simp, toCV_ok (ρ := ρ) ty y _ hr⟩
    · cases ht
theorem open_all {k : Nat} {r : Reach} {base : Nat} (ρ : Env) : ∀ (Ts : List TypeId) (tys : List Ty) (vs : List Value) (ds : List (DataW H)) (ps : List MemPlace), isTys P k Ts tys = true → (∀ (j : Nat) t v, Ts[j]? = some t → vs[j]? = some v → Value.okWide P w r base t v) →
    DataW.TrodAll enc P w 0 (fun _ => true) true Ts vs ds ps → (∀ (j : Nat) t d, Ts[j]? = some t → ds[j]? = some d → ∀ n ∈ d.weights P t, n ≤ reachBytes) → ∃ ys, All2 (DenP (piOf w) ρ) (pvL P Ts tys ys) vs ∧ wfTL tys ys
  | [], [], vs, ds, ps, _, _, h, _ => by
    cases vs with
    | nil => exact ⟨(), trivial, trivial⟩
    | cons v vs => cases ds <;> simp [DataW.TrodAll] at h
  | T :: Ts, t :: tys, vs, ds, ps, ht, hv, h, hz => by
    simp only [isTys, Bool.and_eq_true] at ht
    obtain ⟨v, vs', d, ds', p, q, rfl, rfl, rfl, h1, h2⟩ := trodAll_cons h
    obtain ⟨y, hy, wy⟩ := open_arg ht.1 (hv 0 T v rfl rfl) h1 (hz 0 T d rfl rfl) ρ
    obtain ⟨ys, hys, wys⟩ := open_all ρ Ts tys vs' ds' q ht.2 (fun j t v h3 h4 => hv (j + 1) t v h3 h4) h2 (fun j t d h3 h4 => hz (j + 1) t d h3 h4)
    exact ⟨(y, ys), ⟨hy, hys⟩, wy, wys⟩
  | [], _ :: _, _, _, _, ht, _, _, _ => by simp [isTys] at ht
  | _ :: _, [], _, _, _, ht, _, _, _ => by simp [isTys] at ht
def allRd (P : Program) : List TypeId → Bool
  | [] => true
  | t :: r => P.readableRec t && Nat.blt t P.types.size && allRd P r
theorem trodAll_stays (hl : laidOutB P = true) {W' : World} (hb : Below w.heap.size w W') : ∀ (Ts : List TypeId) (vs : List Value) (ds : List (DataW H)) (ps : List MemPlace), allRd P Ts = true →
    DataW.TrodAll enc P w 0 (fun _ => true) true Ts vs ds ps → DataW.TrodAll enc P W' 0 (fun b => decide (b < w.heap.size)) true Ts vs ds ps
  | [], vs, ds, ps, _, h => by
    cases vs <;> cases ds <;> simp [DataW.TrodAll] at h ⊢
    exact h
  | T :: Ts, vs, ds, ps, ha, h => by
    simp only [allRd, Bool.and_eq_true, Nat.blt_eq] at ha
    obtain ⟨v, vs', d, ds', p, q, rfl, rfl, rfl, h1, h2⟩ := trodAll_cons h
    refine trodAll_cons_mk (Below.trod hl ha.1.1 ha.1.2 h1 hb ?_) (trodAll_stays hl hb Ts vs' ds' q ha.2 h2)
    obtain ⟨m, hm⟩ := h1
    exact DataW.trod_lt m _ _ _ hm
/-- A law's call, from its contract. -/
theorem law_calls {f : FuncId} {Ts : List TypeId} {tys : List Ty} {ys : TL tys} {args : Array Value} (hs : FSpec P f (pvL P Ts tys ys) [] fun r h' => r = .p (.c (.bool true))) (ha : All2 (DenP (piOf w) (fun _ => none)) (pvL P Ts tys ys) args.toList) (hgk : GOk (piOf w) := by intro g h; unfold gvar at h; cases h) :
    Calls P f args w fun e w' => e = .returned (.bool true) ∧ Below w.heap.size w w' := by
  have := hs (piOf w) (fun _ => none) w args.toList (hsat_pi w hgk) ha
  rw [Array.toArray_toList] at this
  refine this.mono ?_
  rintro e w' ⟨v, π', ρ', r, h', rfl, hd, H', St, rfl⟩
  have hv : v = .bool true := hd
  subst hv
  exact ⟨rfl, St.os, St.tape, St.output, St.size, fun g hg => St.block g hg (fun k hk => by simp at hk)⟩
/-- The library's variable is there. -/
theorem gok_cell {w : World} {g : Nat} {m : Int} (hv : gvar = some g) (hm : w.cell? ⟨g, 0, none⟩ = some (.int .i64 m)) : GOk (piOf w) := by
  intro g' hg'
  rw [hv] at hg'
  cases hg'
  unfold World.cell? at hm
  split at hm
  · rename_i c e f hc
    refine ⟨c, m, ?_, by simpa using hm⟩
    unfold piOf
    have hc : w.heap[g]? = some (.cells c e f) := hc
    rw [hc]
  · cases hm
end
end Go.Proofs.Ytkpepieepdmjpaa.Sx
