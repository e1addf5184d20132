/- A machine of abstract states over the model, part A: data by types, what a state says of the machine's memory. No condition. -/
import Derived.Laws.AppendOwn
import Derived.Laws.CopyRow
import Derived.Laws.IdiomCopy
import Derived.Laws.StructEq
import Derived.Tactics
import Derived.KernelRfl
namespace Go.Proofs.Ytkpepieepdmjpaa.Sx
open Go
set_option linter.unusedVariables false
set_option linter.unusedSimpArgs false

/-- The kinds of data: whole numbers, truths, strings, pairs (structs), rows (slices) that nobody writes any more. -/
inductive Ty where
  | int (k : IntKind) | bool | str | unit | prod (a b : Ty) | row (t : Ty) | fix (t : Ty)
  deriving DecidableEq
@[reducible] def Ty.T : Ty → Type
  | .int _ => Int | .bool => Bool | .str => ByteArray | .unit => Unit | .prod a b => a.T × b.T | .row t => List t.T | .fix t => t.T
def Ty.sz : Ty → Nat
  | .unit => 0 | .prod a b => a.sz + b.sz | .fix t => t.sz | _ => 1
def Ty.dft : (t : Ty) → t.T
  | .int _ => (0 : Int) | .bool => false | .str => ByteArray.empty | .unit => () | .prod a b => (a.dft, b.dft) | .row t => ([] : List t.T) | .fix t => t.dft

abbrev Pers := Nat → Option (Array Value)
/-- Where a block lies: its main row (block, first cell, cells), and further blocks that are its own. -/
abbrev Env := Nat → Option (Nat × Nat × Nat × List Nat)
def own (r : Option (Nat × Nat × Nat × List Nat)) (g : Nat) : Prop := match r with | some (g', _, _, l) => g = g' ∨ g ∈ l | none => False
theorem own_main {r : Option (Nat × Nat × Nat × List Nat)} {g o : Nat} {n : Nat × List Nat} (h : r = some (g, o, n)) : own r g := by subst h; exact .inl rfl
theorem own_none {g : Nat} : ¬ own none g := fun h => h
def seg (l : List Value) (o n : Nat) : List Value := (l.drop o).take n
abbrev maxI : Nat := 9223372036854775807

/-- v is a slice of the rows xs, which lie in memory that stays as it is. -/
def RowIs {α : Type} (π : Pers) (R : α → List Value → Prop) (sz : Nat) (xs : List α) (v : Value) : Prop :=
  ∃ A c, v = .slice A xs.length c ∧ xs.length ≤ c ∧ c ≤ maxLen ∧ (xs = [] ∨ ∃ g o vs, A = some ⟨g, o, none⟩ ∧ π g = some vs ∧ ∀ i x, xs[i]? = some x → R x (seg vs.toList (o + i * sz) sz))
def Rep (π : Pers) : (t : Ty) → t.T → List Value → Prop
  | .int k, n, cs => cs = [.int k n]
  | .bool, b, cs => cs = [.bool b]
  | .str, s, cs => cs = [.string s] ∧ s.size ≤ maxI
  | .unit, _, cs => cs = []
  | .prod a b, x, cs => ∃ c d, cs = c ++ d ∧ Rep π a x.1 c ∧ Rep π b x.2 d
  | .row t, xs, cs => ∃ v, cs = [v] ∧ RowIs π (Rep π t) t.sz xs v
  | .fix t, x, cs => Rep π t x cs

theorem rep_len {π : Pers} : ∀ (t : Ty) (x : t.T) (cs : List Value), Rep π t x cs → cs.length = t.sz
  | .int k, n, cs, h => by simp only [Rep] at h; subst h; rfl
  | .bool, b, cs, h => by simp only [Rep] at h; subst h; rfl
  | .str, s, cs, h => by obtain ⟨h, _⟩ := h; subst h; rfl
  | .unit, _, cs, h => by simp only [Rep] at h; subst h; rfl
  | .prod a b, x, cs, h => by
    obtain ⟨c, d, rfl, h1, h2⟩ := h
    rw [List.length_append, rep_len a _ _ h1, rep_len b _ _ h2]; rfl
  | .row t, xs, cs, h => by obtain ⟨v, rfl, _⟩ := h; rfl
  | .fix t, x, cs, h => rep_len t x cs h
theorem rowIs_imp {α : Type} {π π' : Pers} {R R' : α → List Value → Prop} {sz : Nat} {xs : List α} {v : Value} (hp : ∀ g vs, π g = some vs → π' g = some vs) (hR : ∀ x cs, R x cs → R' x cs) (h : RowIs π R sz xs v) : RowIs π' R' sz xs v := by
  obtain ⟨A, c, hv, h1, h2, h3⟩ := h
  refine ⟨A, c, hv, h1, h2, ?_⟩
  rcases h3 with h3 | ⟨g, o, vs, hA, hg, hx⟩
  · exact .inl h3
  · exact .inr ⟨g, o, vs, hA, hp _ _ hg, fun i x hi => hR _ _ (hx i x hi)⟩
theorem rep_mono {π π' : Pers} (hp : ∀ g vs, π g = some vs → π' g = some vs) : ∀ (t : Ty) (x : t.T) (cs : List Value), Rep π t x cs → Rep π' t x cs
  | .int k, n, cs, h => h
  | .bool, b, cs, h => h
  | .str, s, cs, h => h
  | .unit, _, cs, h => h
  | .prod a b, x, cs, h => by
    obtain ⟨c, d, hc, h1, h2⟩ := h
    exact ⟨c, d, hc, rep_mono hp a _ _ h1, rep_mono hp b _ _ h2⟩
  | .row t, xs, cs, h => by
    obtain ⟨v, hv, h⟩ := h
    exact ⟨v, hv, rowIs_imp hp (rep_mono hp t) h⟩
  | .fix t, x, cs, h => rep_mono hp t x cs h
theorem rep_one {π : Pers} : ∀ (t : Ty) (x : t.T) (cs : List Value), Rep π t x cs → ∀ u ∈ cs, u.oneCell' = true
  | .int k, n, cs, h => by simp only [Rep] at h; subst h; simp [Value.oneCell']
  | .bool, b, cs, h => by simp only [Rep] at h; subst h; simp [Value.oneCell']
  | .str, s, cs, h => by obtain ⟨h, _⟩ := h; subst h; simp [Value.oneCell']
  | .unit, _, cs, h => by simp only [Rep] at h; subst h; simp
  | .prod a b, x, cs, h => by
    obtain ⟨c, d, rfl, h1, h2⟩ := h
    intro u hu
    rcases List.mem_append.1 hu with hu | hu
    · exact rep_one a _ _ h1 u hu
    · exact rep_one b _ _ h2 u hu
  | .row t, xs, cs, h => by
    obtain ⟨v, rfl, A, c, rfl, _⟩ := h
    simp [Value.oneCell']
  | .fix t, x, cs, h => rep_one t x cs h

/-- The fields of a struct in a row: data, or a slice whose row is that field's own. -/
inductive FT where
  | pure (t : Ty) | own (e : TypeId) (t : Ty)
  deriving DecidableEq
@[reducible] def FT.T : FT → Type
  | .pure t => t.T | .own _ t => List t.T
def FT.sz : FT → Nat
  | .pure t => t.sz | .own _ _ => 1
@[reducible] def FsT : List FT → Type
  | [] => Unit | f :: r => f.T × FsT r
def fsz : List FT → Nat
  | [] => 0 | f :: r => f.sz + fsz r
/-- Elements that lie one behind the other. -/
def RowAt (π : Pers) (t : Ty) (l : List Value) (o : Nat) (xs : List t.T) : Prop := ∀ i x, xs[i]? = some x → Rep π t x (seg l (o + i * t.sz) t.sz)
def OwnIs (π : Pers) (w : World) (e : TypeId) (t : Ty) (ys : List t.T) (v : Value) (l : List Nat) : Prop :=
  (l = [] ∧ ys = [] ∧ ∃ A, v = .slice A 0 0) ∨ ∃ g o vs c, l = [g] ∧ v = .slice (some ⟨g, o, none⟩) ys.length c ∧ ys.length ≤ c ∧ c ≤ maxLen ∧ w.heap[g]? = some (.cells vs e (0, 0)) ∧ o + c * t.sz ≤ vs.size ∧ RowAt π t vs.toList o ys
def RepF (π : Pers) (w : World) : (fs : List FT) → FsT fs → List Value → List Nat → Prop
  | [], _, cs, L => cs = [] ∧ L = []
  | .pure t :: r, x, cs, L => ∃ c d, cs = c ++ d ∧ Rep π t x.1 c ∧ RepF π w r x.2 d L
  | .own e t :: r, x, cs, L => ∃ v d l L', cs = v :: d ∧ L = l ++ L' ∧ OwnIs π w e t x.1 v l ∧ RepF π w r x.2 d L'
/-- An element of a row: its fields, or a pointer to an object of its own with these. -/
def RepN (π : Pers) (w : World) (bx : Option TypeId) (fs : List FT) (x : FsT fs) (cs : List Value) (L : List Nat) : Prop :=
  match bx with
  | none => RepF π w fs x cs L
  | some T => ∃ g vs L', cs = [.pointer (some ⟨g, 0, none⟩)] ∧ L = g :: L' ∧ w.heap[g]? = some (.cells vs T (0, 0)) ∧ RepF π w fs x vs.toList L'
def nsz (bx : Option TypeId) (fs : List FT) : Nat := match bx with | none => fsz fs | some _ => 1

/-- One cell's content. Blocks are told by their place in the state's list, never by their number. -/
inductive CV where
  | int (k : IntKind) (n : Int) | bool (b : Bool) | str (s : ByteArray)
  | nilp | ptr (b off : Nat) | rptr (t : Ty) (b i j : Nat) | eptr (t : Ty) (xs : List t.T) (i j : Nat)
  | nils | row (t : Ty) (xs : List t.T) | view (t : Ty) (b a n : Nat)
  | func (f : FuncId) | nili | mp (b : Nat) | nilm | nilf | junk
inductive PV where
  | c (x : CV) | agg (l : List CV) | clo (f : FuncId) (l : List CV)
inductive SV where
  | p (x : PV) | gd (j : Nat) (want : Bool) (x : PV) | tup (l : List PV)
/-- A block that the call knows of: single cells; a row that it may write to. -/
inductive HB where
  | cells (t : TypeId) (cs : List CV) | row (e : TypeId) (t : Ty) (xs : List t.T) | map (ka : Bool) (kt : Ty) (va : Bool) (vt : Ty) (es : List (kt.T × vt.T))
  | nest (e : TypeId) (bx : Option TypeId) (fs : List FT) (xs : List (FsT fs)) (hole : Option (Nat × List CV)) | gone
structure SS where
  nt : Nat
  fr : List (Nat × SV)
  hp : List HB

def DenC (π : Pers) (ρ : Env) : CV → Value → Prop
  | .int k n, v => v = .int k n
  | .bool b, v => v = .bool b
  | .str s, v => v = .string s ∧ s.size ≤ maxI
  | .nilp, v => v = .pointer none
  | .ptr b off, v => ∃ g o n, ρ b = some (g, o, n) ∧ v = .pointer (some ⟨g, o + off, none⟩)
  | .rptr t b i j, v => ∃ g o n, ρ b = some (g, o, n) ∧ v = .pointer (some ⟨g, o + i * t.sz + j, none⟩)
  | .eptr t xs i j, v => ∃ g o vs, π g = some vs ∧ (∀ i x, xs[i]? = some x → Rep π t x (seg vs.toList (o + i * t.sz) t.sz)) ∧ v = .pointer (some ⟨g, o + i * t.sz + j, none⟩)
  | .nils, v => v = .slice none 0 0
  | .row t xs, v => RowIs π (Rep π t) t.sz xs v
  | .view t b a n, v => (n = 0 ∧ ∃ A, v = .slice A 0 0) ∨ ∃ g o m c, ρ b = some (g, o, m) ∧ n ≤ c ∧ c ≤ maxLen ∧ o + (a + c) * t.sz ≤ m.1 ∧ v = .slice (some ⟨g, o + a * t.sz, none⟩) n c
  | .func f, v => v = .func (.func f) #[] #[]
  | .nili, v => v = .nilIface
  | .mp b, v => ∃ g o n, ρ b = some (g, o, n) ∧ v = .map (some g)
  | .nilm, v => v = .map none
  | .nilf, v => v = .nilFunc
  | .junk, v => True
def All2 {α β : Type} (R : α → β → Prop) : List α → List β → Prop
  | [], [] => True
  | a :: as, b :: bs => R a b ∧ All2 R as bs
  | _, _ => False
def DenP (π : Pers) (ρ : Env) : PV → Value → Prop
  | .c x, v => DenC π ρ x v
  | .agg l, v => ∃ vs : List Value, v = .agg vs.toArray ∧ All2 (DenC π ρ) l vs
  | .clo f l, v => ∃ vs : List Value, v = .func (.func f) #[] vs.toArray ∧ All2 (DenC π ρ) l vs
def DenT (π : Pers) (ρ : Env) (l : List PV) (v : Value) : Prop := ∃ vs : List Value, v = .tuple vs.toArray ∧ All2 (DenP π ρ) l vs
def SlotIs (π : Pers) (ρ : Env) (T : Array Value) (i : Nat) : SV → Prop
  | .p x => ∃ v, T[i]? = some v ∧ DenP π ρ x v
  | .gd j b x => ∃ v, T[i]? = some v ∧ ((T[j]? = some (.bool b) ∧ DenP π ρ x v) ∨ (T[j]? ≠ some (.bool b) ∧ v = undef))
  | .tup l => ∃ v, T[i]? = some v ∧ DenT π ρ l v

/-- A value of a kind of data, as it stands in a map's entry. -/
def EntIs (π : Pers) (ag : Bool) (t : Ty) (x : t.T) (v : Value) : Prop := ∃ cs : List Value, Rep π t x cs ∧ (match ag with | true => v = .agg cs.toArray | false => cs = [v])
def NestAt (π : Pers) (ρ : Env) (w : World) (bx : Option TypeId) (fs : List FT) (hole : Option (Nat × List CV)) (i : Nat) (x : FsT fs) (cs : List Value) (L : List Nat) : Prop :=
  match hole with
  | some (j, hs) => (i = j ∧ L = [] ∧ All2 (DenC π ρ) hs cs) ∨ (i ≠ j ∧ RepN π w bx fs x cs L)
  | none => RepN π w bx fs x cs L
def HBIs (π : Pers) (ρ : Env) (w : World) (k : Nat) : HB → Prop
  | .cells t cs => ∃ g vs, ρ k = some (g, 0, cs.length, []) ∧ w.heap[g]? = some (.cells vs t (0, 0)) ∧ All2 (DenC π ρ) cs vs.toList
  | .row e t xs => (ρ k = none ∧ xs = []) ∨ ∃ g o vs, ρ k = some (g, o, vs.size, []) ∧ w.heap[g]? = some (.cells vs e (0, 0)) ∧ o + xs.length * t.sz ≤ vs.size ∧ xs.length ≤ maxLen ∧ ∀ i x, xs[i]? = some x → Rep π t x (seg vs.toList (o + i * t.sz) t.sz)
  | .map ka kt va vt es => ∃ g ms clock, ρ k = some (g, 0, 0, []) ∧ w.heap[g]? = some (.map ms clock) ∧ All2 (fun (p : kt.T × vt.T) (e : MapEntry) => EntIs π ka kt p.1 e.key ∧ EntIs π va vt p.2 e.val) es ms.toList
  | .nest e bx fs xs hole => (ρ k = none ∧ xs = [] ∧ hole = none) ∨ ∃ (g o : Nat) (vs : Array Value) (Ls : List (List Nat)), ρ k = some (g, o, vs.size, Ls.flatten) ∧ w.heap[g]? = some (.cells vs e (0, 0)) ∧ o + xs.length * nsz bx fs ≤ vs.size ∧ xs.length ≤ maxLen ∧ Ls.length = xs.length ∧ (g :: Ls.flatten).Nodup ∧
      ∀ i x L, xs[i]? = some x → Ls[i]? = some L → NestAt π ρ w bx fs hole i x (seg vs.toList (o + i * nsz bx fs) (nsz bx fs)) L
  | .gone => True
/-- A variable of the library's own that it reads (its block), where the program has one. -/
def gvar : Option Nat := none
def GOk (π : Pers) : Prop := ∀ g, gvar = some g → ∃ (vs : Array Value) (m : Int), π g = some vs ∧ vs[0]? = some (.int .i64 m)
theorem gok_mono {π π' : Pers} (h : ∀ g vs, π g = some vs → π' g = some vs) (hg : GOk π) : GOk π' := fun g e => by
  obtain ⟨vs, m, h1, h2⟩ := hg g e
  exact ⟨vs, m, h g vs h1, h2⟩
/-- What a list of blocks says of a world. -/
structure HSat (π : Pers) (ρ : Env) (h : List HB) (w : World) : Prop where
  items : ∀ k it, h[k]? = some it → HBIs π ρ w k it
  lt : ∀ k, k < h.length → ∀ g, own (ρ k) g → g < w.heap.size
  inj : ∀ k k' g, k < h.length → k' < h.length → own (ρ k) g → own (ρ k') g → k = k'
  apart : ∀ k g, k < h.length → own (ρ k) g → π g = none
  pers : (∀ g vs, π g = some vs → ∃ e f, w.heap[g]? = some (.cells vs e f)) ∧ GOk π
  out : ∀ k, h.length ≤ k → ρ k = none
/-- What keeps its place: cells and maps. -/
inductive Kd where
  | cells (t : TypeId) | map (ka : Bool) (kt : Ty) (va : Bool) (vt : Ty) | fix (e : TypeId) (t : Ty)
def knd : HB → Option Kd
  | .cells t _ => some (.cells t)
  | .map ka kt va vt _ => some (.map ka kt va vt)
  | .row e (.fix t) _ => some (.fix e t)
  | _ => none
/-- What a step may do: write in the blocks it knows of and in new ones, and nowhere else. -/
structure Step (N : Nat) (ρ : Env) (h : List HB) (w : World) (π : Pers) (ρ' : Env) (h' : List HB) (w' : World) (π' : Pers) : Prop where
  os : w'.os = w.os
  tape : w'.tape = w.tape
  output : w'.output = w.output
  size : w.heap.size ≤ w'.heap.size
  block : ∀ g, g < w.heap.size → (∀ k, k < h.length → ¬ own (ρ k) g) → w'.heap[g]? = w.heap[g]?
  fresh : ∀ k g, k < h'.length → own (ρ' k) g → (∃ j, j < h.length ∧ own (ρ j) g) ∨ w.heap.size ≤ g
  pmono : ∀ g vs, π g = some vs → π' g = some vs
  pfresh : ∀ g vs, π' g = some vs → π g = some vs ∨ (∃ j, j < h.length ∧ own (ρ j) g) ∨ w.heap.size ≤ g
  keep : ∀ k it κ, k < N → h[k]? = some it → knd it = some κ → ρ' k = ρ k ∧ ∃ it', h'[k]? = some it' ∧ knd it' = some κ
def isFix : Ty → Bool | .fix _ => true | _ => false
theorem knd_row {e : TypeId} {t : Ty} {xs : List t.T} (h : isFix t = false) : knd (.row e t xs) = none := by
  cases t <;> first | rfl | cases h
theorem knd_same {e : TypeId} {t : Ty} (xs ys : List t.T) : knd (.row e t xs) = knd (.row e t ys) := by cases t <;> rfl
theorem Step.refl (N : Nat) (ρ : Env) (h : List HB) (w : World) (π : Pers) : Step N ρ h w π ρ h w π :=
  ⟨rfl, rfl, rfl, Nat.le_refl _, fun _ _ _ => rfl, fun k g hk hr => .inl ⟨k, hk, hr⟩, fun _ _ h => h, fun _ _ h => .inl h, fun k it κ _ hk hκ => ⟨rfl, it, hk, hκ⟩⟩
theorem Step.trans {N : Nat} {ρ ρ1 ρ2 : Env} {h h1 h2 : List HB} {w w1 w2 : World} {π π1 π2 : Pers} (a : Step N ρ h w π ρ1 h1 w1 π1) (b : Step N ρ1 h1 w1 π1 ρ2 h2 w2 π2) : Step N ρ h w π ρ2 h2 w2 π2 := by
  refine ⟨b.os.trans a.os, b.tape.trans a.tape, b.output.trans a.output, Nat.le_trans a.size b.size, ?_, ?_, fun g vs hg => b.pmono _ _ (a.pmono _ _ hg), ?_, ?_⟩
  · intro g hg hn
    rw [b.block g (Nat.lt_of_lt_of_le hg a.size) ?_, a.block g hg hn]
    intro k hk hr
    rcases a.fresh k g hk hr with ⟨j, hj, hr'⟩ | hge
    · exact hn j hj hr'
    · omega
  · intro k g hk hr
    rcases b.fresh k g hk hr with ⟨j, hj, hr'⟩ | hge
    · exact a.fresh j g hj hr'
    · exact .inr (Nat.le_trans a.size hge)
  · intro g vs hg
    rcases b.pfresh g vs hg with h0 | ⟨j, hj, hr⟩ | hge
    · exact a.pfresh g vs h0
    · exact .inr (a.fresh j g hj hr)
    · exact .inr (.inr (Nat.le_trans a.size hge))
  · intro k it κ hN hk hκ
    obtain ⟨e1, it1, h1, k1⟩ := a.keep k it κ hN hk hκ
    obtain ⟨e2, it2, h2, k2⟩ := b.keep k it1 κ hN h1 k1
    exact ⟨e2.trans e1, it2, h2, k2⟩

theorem all2_len {α β : Type} {R : α → β → Prop} : ∀ {l : List α} {m : List β}, All2 R l m → l.length = m.length
  | [], [], _ => rfl
  | _ :: _, _ :: _, h => by simp only [List.length_cons]; rw [all2_len h.2]
  | [], _ :: _, h => h.elim
  | _ :: _, [], h => h.elim
theorem all2_imp {α β : Type} {R R' : α → β → Prop} (hR : ∀ a b, R a b → R' a b) : ∀ {l : List α} {m : List β}, All2 R l m → All2 R' l m
  | [], [], _ => trivial
  | _ :: _, _ :: _, h => ⟨hR _ _ h.1, all2_imp hR h.2⟩
  | [], _ :: _, h => h.elim
  | _ :: _, [], h => h.elim
theorem all2_get {α β : Type} {R : α → β → Prop} : ∀ {l : List α} {m : List β}, All2 R l m → ∀ (i : Nat) (a : α), l[i]? = some a → ∃ b, m[i]? = some b ∧ R a b
  | [], [], _, i, a, hi => by simp at hi
  | a :: _, b :: _, h, 0, x, hi => by simp at hi; subst hi; exact ⟨b, rfl, h.1⟩
  | _ :: l, _ :: m, h, i + 1, x, hi => by simp only [List.getElem?_cons_succ] at hi ⊢; exact all2_get h.2 i x hi
  | [], _ :: _, h, _, _, _ => h.elim
  | _ :: _, [], h, _, _, _ => h.elim
theorem all2_set {α β : Type} {R : α → β → Prop} {a : α} {b : β} (hab : R a b) : ∀ {l : List α} {m : List β}, All2 R l m → ∀ (i : Nat), All2 R (l.set i a) (m.set i b)
  | [], [], _, _ => trivial
  | _ :: _, _ :: _, h, 0 => ⟨hab, h.2⟩
  | _ :: _, _ :: _, h, i + 1 => ⟨h.1, all2_set hab h.2 i⟩
  | [], _ :: _, h, _ => h.elim
  | _ :: _, [], h, _ => h.elim
theorem all2_append {α β : Type} {R : α → β → Prop} : ∀ {l : List α} {m : List β} {l' : List α} {m' : List β}, All2 R l m → All2 R l' m' → All2 R (l ++ l') (m ++ m')
  | [], [], _, _, _, h' => h'
  | _ :: _, _ :: _, _, _, h, h' => ⟨h.1, all2_append h.2 h'⟩
  | [], _ :: _, _, _, h, _ => h.elim
  | _ :: _, [], _, _, h, _ => h.elim
theorem all2_drop {α β : Type} {R : α → β → Prop} : ∀ {l : List α} {m : List β}, All2 R l m → ∀ n, All2 R (l.drop n) (m.drop n)
  | [], [], _, n => by simp [All2]
  | _ :: _, _ :: _, h, 0 => h
  | _ :: _, _ :: _, h, n + 1 => all2_drop h.2 n
  | [], _ :: _, h, _ => h.elim
  | _ :: _, [], h, _ => h.elim
theorem all2_take {α β : Type} {R : α → β → Prop} : ∀ {l : List α} {m : List β}, All2 R l m → ∀ n, All2 R (l.take n) (m.take n)
  | [], [], _, n => by simp [All2]
  | _ :: _, _ :: _, h, 0 => trivial
  | _ :: _, _ :: _, h, n + 1 => ⟨h.1, all2_take h.2 n⟩
  | [], _ :: _, h, _ => h.elim
  | _ :: _, [], h, _ => h.elim

def lk : List (Nat × SV) → Nat → Option SV
  | [], _ => none
  | (j, v) :: r, i => bif Nat.beq j i then some v else lk r i
def SV.hangs : SV → Nat → Bool
  | .gd j _ _, i => Nat.beq j i
  | _, _ => false
def rm : List (Nat × SV) → Nat → List (Nat × SV)
  | [], _ => []
  | (j, v) :: r, i => bif Nat.beq j i || v.hangs i then rm r i else (j, v) :: rm r i
def up (fr : List (Nat × SV)) (i : Nat) (v : SV) : List (Nat × SV) := (i, v) :: rm fr i
/-- Every name stands once: so that what is struck does not lay bare what stood behind it. -/
def once : List (Nat × SV) → Bool
  | [] => true
  | (j, _) :: r => (match lk r j with | none => true | some _ => false) && once r
structure Sat (π : Pers) (ρ : Env) (s : SS) (a : Act) (w : World) : Prop where
  hs : HSat π ρ s.hp w
  fs : ∀ i v, lk s.fr i = some v → SlotIs π ρ a.tmps i v
  df : a.defers = []
  nt : a.tmps.size = s.nt
  on : once s.fr = true

theorem beq_ne {a b : Nat} (h : Nat.beq a b = false) : a ≠ b := fun e => by subst e; rw [Nat.beq_refl] at h; cases h
theorem lk_rm (fr : List (Nat × SV)) (i k : Nat) (v : SV) (h : lk (rm fr i) k = some v) : k ≠ i ∧ v.hangs i = false ∧ ∃ x, lk fr k = some x := by
  induction fr with
  | nil => simp [rm, lk] at h
  | cons p r ih =>
    obtain ⟨j, u⟩ := p
    simp only [rm] at h
    cases hb : (Nat.beq j i || u.hangs i) with
    | true =>
      rw [hb] at h
      obtain ⟨h1, h2, x, h3⟩ := ih h
      refine ⟨h1, h2, ?_⟩
      simp only [lk]
      cases hj : Nat.beq j k
      · exact ⟨x, h3⟩
      · exact ⟨u, rfl⟩
    | false =>
      rw [hb] at h
      simp only [cond_false, lk] at h
      simp only [Bool.or_eq_false_iff] at hb
      cases hj : Nat.beq j k with
      | true =>
        rw [hj] at h
        simp only [cond_true, Option.some.injEq] at h
        subst h
        have : j = k := Nat.eq_of_beq_eq_true hj
        subst this
        refine ⟨beq_ne hb.1, hb.2, u, by simp [lk, hj]⟩
      | false =>
        rw [hj] at h
        obtain ⟨h1, h2, x, h3⟩ := ih h
        exact ⟨h1, h2, x, by simp only [lk, hj]; exact h3⟩
end Go.Proofs.Ytkpepieepdmjpaa.Sx
