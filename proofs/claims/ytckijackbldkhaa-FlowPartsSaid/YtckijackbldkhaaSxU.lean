/- A machine of abstract states over the model: data, operations that read. No condition. -/
import Derived.Laws.AppendOwn
import Derived.Laws.CopyRow
import Derived.Laws.IdiomCopy
import Derived.Laws.StructEq
import Derived.Tactics
import Derived.KernelRfl
import Derived.Laws.IdiomStrings
namespace Go.Proofs.Ytckijackbldkhaa.Sx
open Go
set_option linter.unusedVariables false
set_option linter.unusedSimpArgs false

/-- The kinds of data: whole numbers, truths, strings, pairs (structs), rows (slices) that nobody writes any more. -/
inductive Ty where
  | int (k : IntKind) | bool | str | unit | prod (a b : Ty) | row (t : Ty) | fix (t : Ty)
  deriving DecidableEq
@[reducible] def Ty.T : Ty → Type
  | .int _ => Int | .bool => Bool | .str => ByteArray | .unit => Unit | .prod a b => a.T × b.T | .row t => List t.T | .fix t => t.T
def Ty.sz : Ty → Nat
  | .unit => 0 | .prod a b => a.sz + b.sz | .fix t => t.sz | _ => 1
def Ty.dft : (t : Ty) → t.T
  | .int _ => (0 : Int) | .bool => false | .str => ByteArray.empty | .unit => () | .prod a b => (a.dft, b.dft) | .row t => ([] : List t.T) | .fix t => t.dft

abbrev Pers := Nat → Option (Array Value)
/-- Where a block lies: its main row (block, first cell, cells), and further blocks that are its own. -/
abbrev Env := Nat → Option (Nat × Nat × Nat × List Nat)
def own (r : Option (Nat × Nat × Nat × List Nat)) (g : Nat) : Prop := match r with | some (g', _, _, l) => g = g' ∨ g ∈ l | none => False
theorem own_main {r : Option (Nat × Nat × Nat × List Nat)} {g o : Nat} {n : Nat × List Nat} (h : r = some (g, o, n)) : own r g := by subst h; exact .inl rfl
theorem own_none {g : Nat} : ¬ own none g := fun h => h
def seg (l : List Value) (o n : Nat) : List Value := (l.drop o).take n
abbrev maxI : Nat := 9223372036854775807

/-- v is a slice of the rows xs, which lie in memory that stays as it is. -/
def RowIs {α : Type} (π : Pers) (R : α → List Value → Prop) (sz : Nat) (xs : List α) (v : Value) : Prop :=
  ∃ A c, v = .slice A xs.length c ∧ xs.length ≤ c ∧ c ≤ maxLen ∧ (xs = [] ∨ ∃ g o vs, A = some ⟨g, o, none⟩ ∧ π g = some vs ∧ ∀ i x, xs[i]? = some x → R x (seg vs.toList (o + i * sz) sz))
def Rep (π : Pers) : (t : Ty) → t.T → List Value → Prop
  | .int k, n, cs => cs = [.int k n]
  | .bool, b, cs => cs = [.bool b]
  | .str, s, cs => cs = [.string s] ∧ s.size ≤ maxI
  | .unit, _, cs => cs = []
  | .prod a b, x, cs => ∃ c d, cs = c ++ d ∧ Rep π a x.1 c ∧ Rep π b x.2 d
  | .row t, xs, cs => ∃ v, cs = [v] ∧ RowIs π (Rep π t) t.sz xs v
  | .fix t, x, cs => Rep π t x cs

theorem rep_len {π : Pers} : ∀ (t : Ty) (x : t.T) (cs : List Value), Rep π t x cs → cs.length = t.sz
  | .int k, n, cs, h => by simp only [Rep] at h; subst h; rfl
  | .bool, b, cs, h => by simp only [Rep] at h; subst h; rfl
  | .str, s, cs, h => by obtain ⟨h, _⟩ := h; subst h; rfl
  | .unit, _, cs, h => by simp only [Rep] at h; subst h; rfl
  | .prod a b, x, cs, h => by
    obtain ⟨c, d, rfl, h1, h2⟩ := h
    rw [List.length_append, rep_len a _ _ h1, rep_len b _ _ h2]; rfl
  | .row t, xs, cs, h => by obtain ⟨v, rfl, _⟩ := h; rfl
  | .fix t, x, cs, h => rep_len t x cs h
theorem rowIs_imp {α : Type} {π π' : Pers} {R R' : α → List Value → Prop} {sz : Nat} {xs : List α} {v : Value} (hp : ∀ g vs, π g = some vs → π' g = some vs) (hR : ∀ x cs, R x cs → R' x cs) (h : RowIs π R sz xs v) : RowIs π' R' sz xs v := by
  obtain ⟨A, c, hv, h1, h2, h3⟩ := h
  refine ⟨A, c, hv, h1, h2, ?_⟩
  rcases h3 with h3 | ⟨g, o, vs, hA, hg, hx⟩
  · exact .inl h3
  · exact .inr ⟨g, o, vs, hA, hp _ _ hg, fun i x hi => hR _ _ (hx i x hi)⟩
theorem rep_mono {π π' : Pers} (hp : ∀ g vs, π g = some vs → π' g = some vs) : ∀ (t : Ty) (x : t.T) (cs : List Value), Rep π t x cs → Rep π' t x cs
  | .int k, n, cs, h => h
  | .bool, b, cs, h => h
  | .str, s, cs, h => h
  | .unit, _, cs, h => h
  | .prod a b, x, cs, h => by
    obtain ⟨c, d, hc, h1, h2⟩ := h
    exact ⟨c, d, hc, rep_mono hp a _ _ h1, rep_mono hp b _ _ h2⟩
  | .row t, xs, cs, h => by
    obtain ⟨v, hv, h⟩ := h
    exact ⟨v, hv, rowIs_imp hp (rep_mono hp t) h⟩
  | .fix t, x, cs, h => rep_mono hp t x cs h
theorem rep_one {π : Pers} : ∀ (t : Ty) (x : t.T) (cs : List Value), Rep π t x cs → ∀ u ∈ cs, u.oneCell' = true
  | .int k, n, cs, h => by simp only [Rep] at h; subst h; simp [Value.oneCell']
  | .bool, b, cs, h => by simp only [Rep] at h; subst h; simp [Value.oneCell']
  | .str, s, cs, h => by obtain ⟨h, _⟩ := h; subst h; simp [Value.oneCell']
  | .unit, _, cs, h => by simp only [Rep] at h; subst h; simp
  | .prod a b, x, cs, h => by
    obtain ⟨c, d, rfl, h1, h2⟩ := h
    intro u hu
    rcases List.mem_append.1 hu with hu | hu
    · exact rep_one a _ _ h1 u hu
    · exact rep_one b _ _ h2 u hu
  | .row t, xs, cs, h => by
    obtain ⟨v, rfl, A, c, rfl, _⟩ := h
    simp [Value.oneCell']
  | .fix t, x, cs, h => rep_one t x cs h

/-- The fields of a struct in a row: data, or a slice whose row is that field's own. -/
inductive FT where
  | pure (t : Ty) | own (e : TypeId) (t : Ty)
  deriving DecidableEq
@[reducible] def FT.T : FT → Type
  | .pure t => t.T | .own _ t => List t.T
def FT.sz : FT → Nat
  | .pure t => t.sz | .own _ _ => 1
@[reducible] def FsT : List FT → Type
  | [] => Unit | f :: r => f.T × FsT r
def fsz : List FT → Nat
  | [] => 0 | f :: r => f.sz + fsz r
/-- Elements that lie one behind the other. -/
def RowAt (π : Pers) (t : Ty) (l : List Value) (o : Nat) (xs : List t.T) : Prop := ∀ i x, xs[i]? = some x → Rep π t x (seg l (o + i * t.sz) t.sz)
def OwnIs (π : Pers) (w : World) (e : TypeId) (t : Ty) (ys : List t.T) (v : Value) (l : List Nat) : Prop :=
  (l = [] ∧ ys = [] ∧ ∃ A, v = .slice A 0 0) ∨ ∃ g o vs c, l = [g] ∧ v = .slice (some ⟨g, o, none⟩) ys.length c ∧ ys.length ≤ c ∧ c ≤ maxLen ∧ w.heap[g]? = some (.cells vs e (0, 0)) ∧ o + c * t.sz ≤ vs.size ∧ RowAt π t vs.toList o ys
def RepF (π : Pers) (w : World) : (fs : List FT) → FsT fs → List Value → List Nat → Prop
  | [], _, cs, L => cs = [] ∧ L = []
  | .pure t :: r, x, cs, L => ∃ c d, cs = c ++ d ∧ Rep π t x.1 c ∧ RepF π w r x.2 d L
  | .own e t :: r, x, cs, L => ∃ v d l L', cs = v :: d ∧ L = l ++ L' ∧ OwnIs π w e t x.1 v l ∧ RepF π w r x.2 d L'
/-- An element of a row: its fields, or a pointer to an object of its own with these. -/
def RepN (π : Pers) (w : World) (bx : Option TypeId) (fs : List FT) (x : FsT fs) (cs : List Value) (L : List Nat) : Prop :=
  match bx with
  | none => RepF π w fs x cs L
  | some T => ∃ g vs L', cs = [.pointer (some ⟨g, 0, none⟩)] ∧ L = g :: L' ∧ w.heap[g]? = some (.cells vs T (0, 0)) ∧ RepF π w fs x vs.toList L'
def nsz (bx : Option TypeId) (fs : List FT) : Nat := match bx with | none => fsz fs | some _ => 1

/-- One cell's content. Blocks are told by their place in the state's list, never by their number. -/
inductive CV where
  | int (k : IntKind) (n : Int) | bool (b : Bool) | str (s : ByteArray)
  | nilp | ptr (b off : Nat) | rptr (t : Ty) (b i j : Nat) | eptr (t : Ty) (xs : List t.T) (i j : Nat)
  | nils | row (t : Ty) (xs : List t.T) | view (t : Ty) (b a n : Nat)
  | func (f : FuncId) | nili | mp (b : Nat) | nilm | nilf | junk
inductive PV where
  | c (x : CV) | agg (l : List CV) | clo (f : FuncId) (l : List CV)
inductive SV where
  | p (x : PV) | gd (j : Nat) (want : Bool) (x : PV) | tup (l : List PV)
/-- A block that the call knows of: single cells; a row that it may write to. -/
inductive HB where
  | cells (t : TypeId) (cs : List CV) | row (e : TypeId) (t : Ty) (xs : List t.T) | map (ka : Bool) (kt : Ty) (va : Bool) (vt : Ty) (es : List (kt.T × vt.T))
  | nest (e : TypeId) (bx : Option TypeId) (fs : List FT) (xs : List (FsT fs)) (hole : Option (Nat × List CV)) | gone
structure SS where
  nt : Nat
  fr : List (Nat × SV)
  hp : List HB

def DenC (π : Pers) (ρ : Env) : CV → Value → Prop
  | .int k n, v => v = .int k n
  | .bool b, v => v = .bool b
  | .str s, v => v = .string s ∧ s.size ≤ maxI
  | .nilp, v => v = .pointer none
  | .ptr b off, v => ∃ g o n, ρ b = some (g, o, n) ∧ v = .pointer (some ⟨g, o + off, none⟩)
  | .rptr t b i j, v => ∃ g o n, ρ b = some (g, o, n) ∧ v = .pointer (some ⟨g, o + i * t.sz + j, none⟩)
  | .eptr t xs i j, v => ∃ g o vs, π g = some vs ∧ (∀ i x, xs[i]? = some x → Rep π t x (seg vs.toList (o + i * t.sz) t.sz)) ∧ v = .pointer (some ⟨g, o + i * t.sz + j, none⟩)
  | .nils, v => v = .slice none 0 0
  | .row t xs, v => RowIs π (Rep π t) t.sz xs v
  | .view t b a n, v => (n = 0 ∧ ∃ A, v = .slice A 0 0) ∨ ∃ g o m c, ρ b = some (g, o, m) ∧ n ≤ c ∧ c ≤ maxLen ∧ o + (a + c) * t.sz ≤ m.1 ∧ v = .slice (some ⟨g, o + a * t.sz, none⟩) n c
  | .func f, v => v = .func (.func f) #[] #[]
  | .nili, v => v = .nilIface
  | .mp b, v => ∃ g o n, ρ b = some (g, o, n) ∧ v = .map (some g)
  | .nilm, v => v = .map none
  | .nilf, v => v = .nilFunc
  | .junk, v => True
def All2 {α β : Type} (R : α → β → Prop) : List α → List β → Prop
  | [], [] => True
  | a :: as, b :: bs => R a b ∧ All2 R as bs
  | _, _ => False
def DenP (π : Pers) (ρ : Env) : PV → Value → Prop
  | .c x, v => DenC π ρ x v
  | .agg l, v => ∃ vs : List Value, v = .agg vs.toArray ∧ All2 (DenC π ρ) l vs
  | .clo f l, v => ∃ vs : List Value, v = .func (.func f) #[] vs.toArray ∧ All2 (DenC π ρ) l vs
def DenT (π : Pers) (ρ : Env) (l : List PV) (v : Value) : Prop := ∃ vs : List Value, v = .tuple vs.toArray ∧ All2 (DenP π ρ) l vs
def SlotIs (π : Pers) (ρ : Env) (T : Array Value) (i : Nat) : SV → Prop
  | .p x => ∃ v, T[i]? = some v ∧ DenP π ρ x v
  | .gd j b x => ∃ v, T[i]? = some v ∧ ((T[j]? = some (.bool b) ∧ DenP π ρ x v) ∨ (T[j]? ≠ some (.bool b) ∧ v = undef))
  | .tup l => ∃ v, T[i]? = some v ∧ DenT π ρ l v

/-- A value of a kind of data, as it stands in a map's entry. -/
def EntIs (π : Pers) (ag : Bool) (t : Ty) (x : t.T) (v : Value) : Prop := ∃ cs : List Value, Rep π t x cs ∧ (match ag with | true => v = .agg cs.toArray | false => cs = [v])
def NestAt (π : Pers) (ρ : Env) (w : World) (bx : Option TypeId) (fs : List FT) (hole : Option (Nat × List CV)) (i : Nat) (x : FsT fs) (cs : List Value) (L : List Nat) : Prop :=
  match hole with
  | some (j, hs) => (i = j ∧ L = [] ∧ All2 (DenC π ρ) hs cs) ∨ (i ≠ j ∧ RepN π w bx fs x cs L)
  | none => RepN π w bx fs x cs L
def HBIs (π : Pers) (ρ : Env) (w : World) (k : Nat) : HB → Prop
  | .cells t cs => ∃ g vs, ρ k = some (g, 0, cs.length, []) ∧ w.heap[g]? = some (.cells vs t (0, 0)) ∧ All2 (DenC π ρ) cs vs.toList
  | .row e t xs => (ρ k = none ∧ xs = []) ∨ ∃ g o vs, ρ k = some (g, o, vs.size, []) ∧ w.heap[g]? = some (.cells vs e (0, 0)) ∧ o + xs.length * t.sz ≤ vs.size ∧ xs.length ≤ maxLen ∧ ∀ i x, xs[i]? = some x → Rep π t x (seg vs.toList (o + i * t.sz) t.sz)
  | .map ka kt va vt es => ∃ g ms clock, ρ k = some (g, 0, 0, []) ∧ w.heap[g]? = some (.map ms clock) ∧ All2 (fun (p : kt.T × vt.T) (e : MapEntry) => EntIs π ka kt p.1 e.key ∧ EntIs π va vt p.2 e.val) es ms.toList
  | .nest e bx fs xs hole => (ρ k = none ∧ xs = [] ∧ hole = none) ∨ ∃ (g o : Nat) (vs : Array Value) (Ls : List (List Nat)), ρ k = some (g, o, vs.size, Ls.flatten) ∧ w.heap[g]? = some (.cells vs e (0, 0)) ∧ o + xs.length * nsz bx fs ≤ vs.size ∧ xs.length ≤ maxLen ∧ Ls.length = xs.length ∧ (g :: Ls.flatten).Nodup ∧
      ∀ i x L, xs[i]? = some x → Ls[i]? = some L → NestAt π ρ w bx fs hole i x (seg vs.toList (o + i * nsz bx fs) (nsz bx fs)) L
  | .gone => True
/-- The element types of rows of structs that have rows of their own. -/
def nestT : TypeId → Option (Option TypeId × List FT) := fun | 37 => some (none, [.pure (.int .i64), .pure (.int .i64), .own 3 (.int .i64), .own 3 (.int .i64)]) | _ => none
/-- A variable of the library's own that it reads (its block), where the program has one. -/
def gvar : Option Nat := none
def GOk (π : Pers) : Prop := ∀ g, gvar = some g → ∃ (vs : Array Value) (m : Int), π g = some vs ∧ vs[0]? = some (.int .i64 m)
theorem gok_mono {π π' : Pers} (h : ∀ g vs, π g = some vs → π' g = some vs) (hg : GOk π) : GOk π' := fun g e => by
  obtain ⟨vs, m, h1, h2⟩ := hg g e
  exact ⟨vs, m, h g vs h1, h2⟩
/-- What a list of blocks says of a world. -/
structure HSat (π : Pers) (ρ : Env) (h : List HB) (w : World) : Prop where
  items : ∀ k it, h[k]? = some it → HBIs π ρ w k it
  lt : ∀ k, k < h.length → ∀ g, own (ρ k) g → g < w.heap.size
  inj : ∀ k k' g, k < h.length → k' < h.length → own (ρ k) g → own (ρ k') g → k = k'
  apart : ∀ k g, k < h.length → own (ρ k) g → π g = none
  pers : (∀ g vs, π g = some vs → ∃ e f, w.heap[g]? = some (.cells vs e f)) ∧ GOk π
  out : ∀ k, h.length ≤ k → ρ k = none
/-- What keeps its place: cells and maps. -/
inductive Kd where
  | cells (t : TypeId) | map (ka : Bool) (kt : Ty) (va : Bool) (vt : Ty) | fix (e : TypeId) (t : Ty)
def knd : HB → Option Kd
  | .cells t _ => some (.cells t)
  | .map ka kt va vt _ => some (.map ka kt va vt)
  | .row e (.fix t) _ => some (.fix e t)
  | _ => none
/-- What a step may do: write in the blocks it knows of and in new ones, and nowhere else. -/
structure Step (N : Nat) (ρ : Env) (h : List HB) (w : World) (π : Pers) (ρ' : Env) (h' : List HB) (w' : World) (π' : Pers) : Prop where
  os : w'.os = w.os
  tape : w'.tape = w.tape
  output : w'.output = w.output
  size : w.heap.size ≤ w'.heap.size
  block : ∀ g, g < w.heap.size → (∀ k, k < h.length → ¬ own (ρ k) g) → w'.heap[g]? = w.heap[g]?
  fresh : ∀ k g, k < h'.length → own (ρ' k) g → (∃ j, j < h.length ∧ own (ρ j) g) ∨ w.heap.size ≤ g
  pmono : ∀ g vs, π g = some vs → π' g = some vs
  pfresh : ∀ g vs, π' g = some vs → π g = some vs ∨ (∃ j, j < h.length ∧ own (ρ j) g) ∨ w.heap.size ≤ g
  keep : ∀ k it κ, k < N → h[k]? = some it → knd it = some κ → ρ' k = ρ k ∧ ∃ it', h'[k]? = some it' ∧ knd it' = some κ
def isFix : Ty → Bool | .fix _ => true | _ => false
theorem knd_row {e : TypeId} {t : Ty} {xs : List t.T} (h : isFix t = false) : knd (.row e t xs) = none := by
  cases t <;> first | rfl | cases h
theorem knd_same {e : TypeId} {t : Ty} (xs ys : List t.T) : knd (.row e t xs) = knd (.row e t ys) := by cases t <;> rfl
theorem Step.refl (N : Nat) (ρ : Env) (h : List HB) (w : World) (π : Pers) : Step N ρ h w π ρ h w π :=
  ⟨rfl, rfl, rfl, Nat.le_refl _, fun _ _ _ => rfl, fun k g hk hr => .inl ⟨k, hk, hr⟩, fun _ _ h => h, fun _ _ h => .inl h, fun k it κ _ hk hκ => ⟨rfl, it, hk, hκ⟩⟩
theorem Step.trans {N : Nat} {ρ ρ1 ρ2 : Env} {h h1 h2 : List HB} {w w1 w2 : World} {π π1 π2 : Pers} (a : Step N ρ h w π ρ1 h1 w1 π1) (b : Step N ρ1 h1 w1 π1 ρ2 h2 w2 π2) : Step N ρ h w π ρ2 h2 w2 π2 := by
  refine ⟨b.os.trans a.os, b.tape.trans a.tape, b.output.trans a.output, Nat.le_trans a.size b.size, ?_, ?_, fun g vs hg => b.pmono _ _ (a.pmono _ _ hg), ?_, ?_⟩
  · intro g hg hn
    rw [b.block g (Nat.lt_of_lt_of_le hg a.size) ?_, a.block g hg hn]
    intro k hk hr
    rcases a.fresh k g hk hr with ⟨j, hj, hr'⟩ | hge
    · exact hn j hj hr'
    · omega
  · intro k g hk hr
    rcases b.fresh k g hk hr with ⟨j, hj, hr'⟩ | hge
    · exact a.fresh j g hj hr'
    · exact .inr (Nat.le_trans a.size hge)
  · intro g vs hg
    rcases b.pfresh g vs hg with h0 | ⟨j, hj, hr⟩ | hge
    · exact a.pfresh g vs h0
    · exact .inr (a.fresh j g hj hr)
    · exact .inr (.inr (Nat.le_trans a.size hge))
  · intro k it κ hN hk hκ
    obtain ⟨e1, it1, h1, k1⟩ := a.keep k it κ hN hk hκ
    obtain ⟨e2, it2, h2, k2⟩ := b.keep k it1 κ hN h1 k1
    exact ⟨e2.trans e1, it2, h2, k2⟩

theorem all2_len {α β : Type} {R : α → β → Prop} : ∀ {l : List α} {m : List β}, All2 R l m → l.length = m.length
  | [], [], _ => rfl
  | _ :: _, _ :: _, h => by simp only [List.length_cons]; rw [all2_len h.2]
  | [], _ :: _, h => h.elim
  | _ :: _, [], h => h.elim
theorem all2_imp {α β : Type} {R R' : α → β → Prop} (hR : ∀ a b, R a b → R' a b) : ∀ {l : List α} {m : List β}, All2 R l m → All2 R' l m
  | [], [], _ => trivial
  | _ :: _, _ :: _, h => ⟨hR _ _ h.1, all2_imp hR h.2⟩
  | [], _ :: _, h => h.elim
  | _ :: _, [], h => h.elim
theorem all2_get {α β : Type} {R : α → β → Prop} : ∀ {l : List α} {m : List β}, All2 R l m → ∀ (i : Nat) (a : α), l[i]? = some a → ∃ b, m[i]? = some b ∧ R a b
  | [], [], _, i, a, hi => by simp at hi
  | a :: _, b :: _, h, 0, x, hi => by simp at hi; subst hi; exact ⟨b, rfl, h.1⟩
  | _ :: l, _ :: m, h, i + 1, x, hi => by simp only [List.getElem?_cons_succ] at hi ⊢; exact all2_get h.2 i x hi
  | [], _ :: _, h, _, _, _ => h.elim
  | _ :: _, [], h, _, _, _ => h.elim
theorem all2_set {α β : Type} {R : α → β → Prop} {a : α} {b : β} (hab : R a b) : ∀ {l : List α} {m : List β}, All2 R l m → ∀ (i : Nat), All2 R (l.set i a) (m.set i b)
  | [], [], _, _ => trivial
  | _ :: _, _ :: _, h, 0 => ⟨hab, h.2⟩
  | _ :: _, _ :: _, h, i + 1 => ⟨h.1, all2_set hab h.2 i⟩
  | [], _ :: _, h, _ => h.elim
  | _ :: _, [], h, _ => h.elim
theorem all2_append {α β : Type} {R : α → β → Prop} : ∀ {l : List α} {m : List β} {l' : List α} {m' : List β}, All2 R l m → All2 R l' m' → All2 R (l ++ l') (m ++ m')
  | [], [], _, _, _, h' => h'
  | _ :: _, _ :: _, _, _, h, h' => ⟨h.1, all2_append h.2 h'⟩
  | [], _ :: _, _, _, h, _ => h.elim
  | _ :: _, [], _, _, h, _ => h.elim
theorem all2_drop {α β : Type} {R : α → β → Prop} : ∀ {l : List α} {m : List β}, All2 R l m → ∀ n, All2 R (l.drop n) (m.drop n)
  | [], [], _, n => by simp [All2]
  | _ :: _, _ :: _, h, 0 => h
  | _ :: _, _ :: _, h, n + 1 => all2_drop h.2 n
  | [], _ :: _, h, _ => h.elim
  | _ :: _, [], h, _ => h.elim
theorem all2_take {α β : Type} {R : α → β → Prop} : ∀ {l : List α} {m : List β}, All2 R l m → ∀ n, All2 R (l.take n) (m.take n)
  | [], [], _, n => by simp [All2]
  | _ :: _, _ :: _, h, 0 => trivial
  | _ :: _, _ :: _, h, n + 1 => ⟨h.1, all2_take h.2 n⟩
  | [], _ :: _, h, _ => h.elim
  | _ :: _, [], h, _ => h.elim

def lk : List (Nat × SV) → Nat → Option SV
  | [], _ => none
  | (j, v) :: r, i => bif Nat.beq j i then some v else lk r i
def SV.hangs : SV → Nat → Bool
  | .gd j _ _, i => Nat.beq j i
  | _, _ => false
def rm : List (Nat × SV) → Nat → List (Nat × SV)
  | [], _ => []
  | (j, v) :: r, i => bif Nat.beq j i || v.hangs i then rm r i else (j, v) :: rm r i
def up (fr : List (Nat × SV)) (i : Nat) (v : SV) : List (Nat × SV) := (i, v) :: rm fr i
/-- Every name stands once: so that what is struck does not lay bare what stood behind it. -/
def once : List (Nat × SV) → Bool
  | [] => true
  | (j, _) :: r => (match lk r j with | none => true | some _ => false) && once r
structure Sat (π : Pers) (ρ : Env) (s : SS) (a : Act) (w : World) : Prop where
  hs : HSat π ρ s.hp w
  fs : ∀ i v, lk s.fr i = some v → SlotIs π ρ a.tmps i v
  df : a.defers = []
  nt : a.tmps.size = s.nt
  on : once s.fr = true

theorem beq_ne {a b : Nat} (h : Nat.beq a b = false) : a ≠ b := fun e => by subst e; rw [Nat.beq_refl] at h; cases h
theorem lk_rm (fr : List (Nat × SV)) (i k : Nat) (v : SV) (h : lk (rm fr i) k = some v) : k ≠ i ∧ v.hangs i = false ∧ ∃ x, lk fr k = some x := by
  induction fr with
  | nil => simp [rm, lk] at h
  | cons p r ih =>
    obtain ⟨j, u⟩ := p
    simp only [rm] at h
    cases hb : (Nat.beq j i || u.hangs i) with
    | true =>
      rw [hb] at h
      obtain ⟨h1, h2, x, h3⟩ := ih h
      refine ⟨h1, h2, ?_⟩
      simp only [lk]
      cases hj : Nat.beq j k
      · exact ⟨x, h3⟩
      · exact ⟨u, rfl⟩
    | false =>
      rw [hb] at h
      simp only [cond_false, lk] at h
      simp only [Bool.or_eq_false_iff] at hb
      cases hj : Nat.beq j k with
      | true =>
        rw [hj] at h
        simp only [cond_true, Option.some.injEq] at h
        subst h
        have : j = k := Nat.eq_of_beq_eq_true hj
        subst this
        refine ⟨beq_ne hb.1, hb.2, u, by simp [lk, hj]⟩
      | false =>
        rw [hj] at h
        obtain ⟨h1, h2, x, h3⟩ := ih h
        exact ⟨h1, h2, x, by simp only [lk, hj]; exact h3⟩
end Go.Proofs.Ytckijackbldkhaa.Sx
namespace Go.Proofs.Ytckijackbldkhaa.Sx
open Go
set_option linter.unusedVariables false
set_option linter.unusedSimpArgs false

theorem den_up {π π' : Pers} {ρ ρ' : Env} (hp : ∀ g vs, π g = some vs → π' g = some vs) (hr : ∀ b x, ρ b = some x → ρ' b = some x) : ∀ (c : CV) (v : Value), DenC π ρ c v → DenC π' ρ' c v
  | .int _ _, _, h => h
  | .bool _, _, h => h
  | .str _, _, h => h
  | .nilp, _, h => h
  | .ptr b off, v, ⟨g, o, n, h1, h2⟩ => ⟨g, o, n, hr _ _ h1, h2⟩
  | .rptr t b i j, v, ⟨g, o, n, h1, h2⟩ => ⟨g, o, n, hr _ _ h1, h2⟩
  | .eptr t xs i j, v, ⟨g, o, vs, h1, h2, h3⟩ => ⟨g, o, vs, hp _ _ h1, fun i x hi => rep_mono hp t x _ (h2 i x hi), h3⟩
  | .nils, _, h => h
  | .row t xs, v, h => rowIs_imp hp (rep_mono hp t) h
  | .view t b a n, v, .inl h => .inl h
  | .view t b a n, v, .inr ⟨g, o, m, c, h1, h2⟩ => .inr ⟨g, o, m, c, hr _ _ h1, h2⟩
  | .func _, _, h => h
  | .nili, _, h => h
  | .mp b, v, ⟨g, o, n, h1, h2⟩ => ⟨g, o, n, hr _ _ h1, h2⟩
  | .nilm, _, h => h
  | .nilf, _, h => h
  | .junk, _, _ => trivial
theorem denp_up {π π' : Pers} {ρ ρ' : Env} (hp : ∀ g vs, π g = some vs → π' g = some vs) (hr : ∀ b x, ρ b = some x → ρ' b = some x) : ∀ (c : PV) (v : Value), DenP π ρ c v → DenP π' ρ' c v
  | .c x, v, h => den_up hp hr x v h
  | .agg l, v, ⟨vs, h1, h2⟩ => ⟨vs, h1, all2_imp (den_up hp hr) h2⟩
  | .clo f l, v, ⟨vs, h1, h2⟩ => ⟨vs, h1, all2_imp (den_up hp hr) h2⟩
theorem slot_up {π π' : Pers} {ρ ρ' : Env} (hp : ∀ g vs, π g = some vs → π' g = some vs) (hr : ∀ b x, ρ b = some x → ρ' b = some x) {T : Array Value} {i : Nat} : ∀ (s : SV), SlotIs π ρ T i s → SlotIs π' ρ' T i s
  | .p x, ⟨v, h1, h2⟩ => ⟨v, h1, denp_up hp hr x v h2⟩
  | .gd j b x, ⟨v, h1, .inl ⟨h2, h3⟩⟩ => ⟨v, h1, .inl ⟨h2, denp_up hp hr x v h3⟩⟩
  | .gd j b x, ⟨v, h1, .inr h2⟩ => ⟨v, h1, .inr h2⟩
  | .tup l, ⟨v, h1, vs, h2, h3⟩ => ⟨v, h1, vs, h2, all2_imp (denp_up hp hr) h3⟩

/-! ### what no longer holds of a block that went elsewhere -/
def jkC (b : Nat) : CV → CV
  | .ptr b' o => bif Nat.beq b' b then .junk else .ptr b' o
  | .rptr t b' i j => bif Nat.beq b' b then .junk else .rptr t b' i j
  | .view t b' a n => bif Nat.beq b' b then .junk else .view t b' a n
  | .mp b' => bif Nat.beq b' b then .junk else .mp b'
  | c => c
def jkP (b : Nat) : PV → PV
  | .c x => .c (jkC b x)
  | .agg l => .agg (l.map (jkC b))
  | .clo f l => .clo f (l.map (jkC b))
def jkS (b : Nat) : SV → SV
  | .p x => .p (jkP b x)
  | .gd j w x => .gd j w (jkP b x)
  | .tup l => .tup (l.map (jkP b))
def jkH (b : Nat) : HB → HB
  | .cells t cs => .cells t (cs.map (jkC b))
  | .nest e bx fs xs (some (i, cs)) => .nest e bx fs xs (some (i, cs.map (jkC b)))
  | it => it
def jkF (b : Nat) : List (Nat × SV) → List (Nat × SV)
  | [] => []
  | (i, v) :: r => (i, jkS b v) :: jkF b r
theorem den_jk {π : Pers} {ρ ρ' : Env} {b : Nat} (hr : ∀ k, k ≠ b → ρ' k = ρ k) (c : CV) (v : Value) (h : DenC π ρ c v) : DenC π ρ' (jkC b c) v := by
  cases c with
  | ptr b' o =>
    simp only [jkC]
    cases hb : Nat.beq b' b
    · obtain ⟨g, p, n, h1, h2⟩ := h
      exact ⟨g, p, n, by rw [hr _ (beq_ne hb)]; exact h1, h2⟩
    · trivial
  | rptr t b' i j =>
    simp only [jkC]
    cases hb : Nat.beq b' b
    · obtain ⟨g, p, n, h1, h2⟩ := h
      exact ⟨g, p, n, by rw [hr _ (beq_ne hb)]; exact h1, h2⟩
    · trivial
  | mp b' =>
    simp only [jkC]
    cases hb : Nat.beq b' b
    · obtain ⟨g, p, n, h1, h2⟩ := h
      exact ⟨g, p, n, by rw [hr _ (beq_ne hb)]; exact h1, h2⟩
    · trivial
  | view t b' a n =>
    simp only [jkC]
    cases hb : Nat.beq b' b
    · rcases h with h | ⟨g, o, m, c, h1, h2⟩
      · exact .inl h
      · exact .inr ⟨g, o, m, c, by rw [hr _ (beq_ne hb)]; exact h1, h2⟩
    · trivial
  | _ => exact h
theorem all2_map {α β γ : Type} {R : α → β → Prop} {R' : γ → β → Prop} {f : α → γ} (h : ∀ a b, R a b → R' (f a) b) : ∀ {l : List α} {m : List β}, All2 R l m → All2 R' (l.map f) m
  | [], [], _ => trivial
  | _ :: _, _ :: _, hh => ⟨h _ _ hh.1, all2_map h hh.2⟩
  | [], _ :: _, hh => hh.elim
  | _ :: _, [], hh => hh.elim
theorem denp_jk {π : Pers} {ρ ρ' : Env} {b : Nat} (hr : ∀ k, k ≠ b → ρ' k = ρ k) (c : PV) (v : Value) (h : DenP π ρ c v) : DenP π ρ' (jkP b c) v := by
  cases c with
  | c x => exact den_jk hr x v h
  | agg l => obtain ⟨vs, h1, h2⟩ := h; exact ⟨vs, h1, all2_map (den_jk hr) h2⟩
  | clo f l => obtain ⟨vs, h1, h2⟩ := h; exact ⟨vs, h1, all2_map (den_jk hr) h2⟩
theorem slot_jk {π : Pers} {ρ ρ' : Env} {b : Nat} (hr : ∀ k, k ≠ b → ρ' k = ρ k) {T : Array Value} {i : Nat} (s : SV) (h : SlotIs π ρ T i s) : SlotIs π ρ' T i (jkS b s) := by
  cases s with
  | p x => obtain ⟨v, h1, h2⟩ := h; exact ⟨v, h1, denp_jk hr x v h2⟩
  | gd j w x =>
    obtain ⟨v, h1, h2⟩ := h
    rcases h2 with ⟨h2, h3⟩ | h2
    · exact ⟨v, h1, .inl ⟨h2, denp_jk hr x v h3⟩⟩
    · exact ⟨v, h1, .inr h2⟩
  | tup l => obtain ⟨v, h1, vs, h2, h3⟩ := h; exact ⟨v, h1, vs, h2, all2_map (denp_jk hr) h3⟩
theorem lk_jk {b : Nat} : ∀ {fr : List (Nat × SV)} {i : Nat} {v : SV}, lk (jkF b fr) i = some v → ∃ u, lk fr i = some u ∧ v = jkS b u
  | [], i, v, h => by simp [jkF, lk] at h
  | (j, u) :: r, i, v, h => by
    simp only [jkF, lk] at h ⊢
    cases hj : Nat.beq j i
    · rw [hj] at h; exact lk_jk h
    · rw [hj] at h; simp only [cond_true, Option.some.injEq] at h; exact ⟨u, rfl, h.symm⟩

def updE (ρ : Env) (b : Nat) (r : Option (Nat × Nat × Nat × List Nat)) : Env := fun k => bif Nat.beq k b then r else ρ k
theorem updE_same (ρ : Env) (b : Nat) (r : Option (Nat × Nat × Nat × List Nat)) : updE ρ b r b = r := by simp [updE]
theorem updE_other (ρ : Env) {b k : Nat} (r : Option (Nat × Nat × Nat × List Nat)) (h : k ≠ b) : updE ρ b r k = ρ k := by
  have : Nat.beq k b = false := by cases hh : Nat.beq k b with | false => rfl | true => exact absurd (Nat.eq_of_beq_eq_true hh) h
  simp [updE, this]
/-! ### what an element of its own says goes on, where its blocks stay -/
theorem owns_keep {π π' : Pers} {w w' : World} {e : TypeId} {t : Ty} {ys : List t.T} {v : Value} {l : List Nat} (hp : ∀ g vs, π g = some vs → π' g = some vs) (hw : ∀ g, g ∈ l → w'.heap[g]? = w.heap[g]?) (h : OwnIs π w e t ys v l) : OwnIs π' w' e t ys v l := by
  rcases h with h | ⟨g, o, vs, c, rfl, h2, h3, h4, h5, h6, h7⟩
  · exact .inl h
  · exact .inr ⟨g, o, vs, c, rfl, h2, h3, h4, by rw [hw g (by simp)]; exact h5, h6, fun i x hi => rep_mono hp t x _ (h7 i x hi)⟩
theorem repF_keep {π π' : Pers} {w w' : World} (hp : ∀ g vs, π g = some vs → π' g = some vs) : ∀ (fs : List FT) (x : FsT fs) (cs : List Value) (L : List Nat), (∀ g, g ∈ L → w'.heap[g]? = w.heap[g]?) → RepF π w fs x cs L → RepF π' w' fs x cs L
  | [], _, _, _, _, h => h
  | .pure t :: r, x, cs, L, hw, ⟨c, d, h1, h2, h3⟩ => ⟨c, d, h1, rep_mono hp t _ _ h2, repF_keep hp r x.2 d L hw h3⟩
  | .own e t :: r, x, cs, L, hw, ⟨v, d, l, L', h1, h2, h3, h4⟩ => by
    subst h2
    exact ⟨v, d, l, L', h1, rfl, owns_keep hp (fun g hg => hw g (List.mem_append_left _ hg)) h3, repF_keep hp r x.2 d L' (fun g hg => hw g (List.mem_append_right _ hg)) h4⟩
theorem repN_keep {π π' : Pers} {w w' : World} {bx : Option TypeId} {fs : List FT} {x : FsT fs} {cs : List Value} {L : List Nat} (hp : ∀ g vs, π g = some vs → π' g = some vs) (hw : ∀ g, g ∈ L → w'.heap[g]? = w.heap[g]?) (h : RepN π w bx fs x cs L) : RepN π' w' bx fs x cs L := by
  cases bx with
  | none => exact repF_keep hp fs x cs L hw h
  | some T =>
    obtain ⟨g, vs, L', h1, rfl, h3, h4⟩ := h
    exact ⟨g, vs, L', h1, rfl, by rw [hw g (by simp)]; exact h3, repF_keep hp fs x _ L' (fun k hk => hw k (by simp [hk])) h4⟩
theorem ent_keep {π π' : Pers} (hp : ∀ g vs, π g = some vs → π' g = some vs) {ag : Bool} {t : Ty} {x : t.T} {v : Value} (h : EntIs π ag t x v) : EntIs π' ag t x v := by
  obtain ⟨cs, h1, h2⟩ := h
  exact ⟨cs, rep_mono hp t x cs h1, h2⟩
theorem nestAt_keep {π π' : Pers} {ρ ρ' : Env} {w w' : World} {bx : Option TypeId} {fs : List FT} {hole hole' : Option (Nat × List CV)} {i : Nat} {x : FsT fs} {cs : List Value} {L : List Nat} (hp : ∀ g vs, π g = some vs → π' g = some vs) (hw : ∀ g, g ∈ L → w'.heap[g]? = w.heap[g]?)
    (hh : ∀ j hs, hole = some (j, hs) → ∃ hs', hole' = some (j, hs') ∧ (All2 (DenC π ρ) hs cs → All2 (DenC π' ρ') hs' cs)) (hn : hole = none → hole' = none) (h : NestAt π ρ w bx fs hole i x cs L) : NestAt π' ρ' w' bx fs hole' i x cs L := by
  cases hole with
  | none => rw [hn rfl]; exact repN_keep hp hw h
  | some q =>
    obtain ⟨j, hs⟩ := q
    obtain ⟨hs', e1, e2⟩ := hh j hs rfl
    subst e1
    rcases h with ⟨h1, h2, h3⟩ | ⟨h1, h2⟩
    · exact .inl ⟨h1, h2, e2 h3⟩
    · exact .inr ⟨h1, repN_keep hp hw h2⟩
theorem mem_flat {Ls : List (List Nat)} {i : Nat} {L : List Nat} {g : Nat} (h : Ls[i]? = some L) (hg : g ∈ L) : g ∈ Ls.flatten := List.mem_flatten.2 ⟨L, List.mem_of_getElem? h, hg⟩
theorem hb_keep {π π' : Pers} {ρ ρ' : Env} {w w' : World} {k : Nat} (hp : ∀ g vs, π g = some vs → π' g = some vs) (hr : ∀ b x, ρ b = some x → ρ' b = some x) (hk : ρ' k = ρ k) (hw : ∀ g, own (ρ k) g → w'.heap[g]? = w.heap[g]?) : ∀ (it : HB), HBIs π ρ w k it → HBIs π' ρ' w' k it
  | .cells t cs, ⟨g, vs, h1, h2, h4⟩ => ⟨g, vs, by rw [hk]; exact h1, by rw [hw g (own_main h1)]; exact h2, all2_imp (den_up hp hr) h4⟩
  | .row e t xs, .inl h => .inl (by rw [hk]; exact h)
  | .row e t xs, .inr ⟨g, o, vs, h1, h2, h3, h4, h5⟩ => .inr ⟨g, o, vs, by rw [hk]; exact h1, by rw [hw g (own_main h1)]; exact h2, h3, h4, fun i x hi => rep_mono hp t x _ (h5 i x hi)⟩
  | .map ka kt va vt es, ⟨g, ms, clock, h1, h2, h3⟩ => ⟨g, ms, clock, by rw [hk]; exact h1, by rw [hw g (own_main h1)]; exact h2, all2_imp (fun a b h => ⟨ent_keep hp h.1, ent_keep hp h.2⟩) h3⟩
  | .nest e bx fs xs hole, .inl h => .inl (by rw [hk]; exact h)
  | .nest e bx fs xs hole, .inr ⟨g, o, vs, Ls, h1, h2, h3, h4, h5, h6, h7⟩ => .inr ⟨g, o, vs, Ls, by rw [hk]; exact h1, by rw [hw g (own_main h1)]; exact h2, h3, h4, h5, h6, fun i x L hi hL =>
      nestAt_keep hp (fun g hg => hw g (by rw [h1]; exact .inr (mem_flat hL hg))) (fun j hs hh => ⟨hs, hh, all2_imp (den_up hp hr)⟩) id (h7 i x L hi hL)⟩
  | .gone, _ => trivial
theorem hb_jk {π π' : Pers} {ρ ρ' : Env} {w w' : World} {k b : Nat} (hp : ∀ g vs, π g = some vs → π' g = some vs) (hr : ∀ k, k ≠ b → ρ' k = ρ k) (hk : k ≠ b) (hw : ∀ g, own (ρ k) g → w'.heap[g]? = w.heap[g]?) (it : HB) (h : HBIs π ρ w k it) : HBIs π' ρ' w' k (jkH b it) := by
  have hcs : ∀ {l : List CV} {m : List Value}, All2 (DenC π ρ) l m → All2 (DenC π' ρ') (l.map (jkC b)) m := fun h => all2_map (fun a v h => den_up hp (fun _ _ h => h) _ _ (den_jk hr a v h)) h
  cases it with
  | cells t cs =>
    obtain ⟨g, vs, h1, h2, h4⟩ := h
    exact ⟨g, vs, by rw [hr k hk]; simpa using h1, by rw [hw g (own_main h1)]; exact h2, hcs h4⟩
  | row e t xs =>
    rcases h with h | ⟨g, o, vs, h1, h2, h3, h4, h5⟩
    · exact .inl (by rw [hr k hk]; exact h)
    · exact .inr ⟨g, o, vs, by rw [hr k hk]; exact h1, by rw [hw g (own_main h1)]; exact h2, h3, h4, fun i x hi => rep_mono hp t x _ (h5 i x hi)⟩
  | map ka kt va vt es =>
    obtain ⟨g, ms, clock, h1, h2, h3⟩ := h
    exact ⟨g, ms, clock, by rw [hr k hk]; exact h1, by rw [hw g (own_main h1)]; exact h2, all2_imp (fun a b h => ⟨ent_keep hp h.1, ent_keep hp h.2⟩) h3⟩
  | nest e bx fs xs hole =>
    rcases h with ⟨h1, h2, h3⟩ | ⟨g, o, vs, Ls, h1, h2, h3, h4, h5, h6, h7⟩
    · subst h3; exact .inl ⟨by rw [hr k hk]; exact h1, h2, rfl⟩
    · cases hole with
      | none => exact .inr ⟨g, o, vs, Ls, by rw [hr k hk]; exact h1, by rw [hw g (own_main h1)]; exact h2, h3, h4, h5, h6, fun i x L hi hL => nestAt_keep hp (fun g hg => hw g (by rw [h1]; exact .inr (mem_flat hL hg))) (fun j hs hh => by cases hh) (fun _ => rfl) (h7 i x L hi hL)⟩
      | some q =>
        obtain ⟨j, hs⟩ := q
        exact .inr ⟨g, o, vs, Ls, by rw [hr k hk]; exact h1, by rw [hw g (own_main h1)]; exact h2, h3, h4, h5, h6, fun i x L hi hL => nestAt_keep hp (fun g hg => hw g (by rw [h1]; exact .inr (mem_flat hL hg))) (fun j' hs' hh => by cases hh; exact ⟨_, rfl, hcs⟩) (fun h => by cases h) (h7 i x L hi hL)⟩
  | gone => trivial

/-- Block b stays where it is and gets other content. -/
theorem hsat_put {π : Pers} {ρ : Env} {h : List HB} {w w' : World} (H : HSat π ρ h w) (b : Nat) (it : HB) (hs : w.heap.size ≤ w'.heap.size) (hw : ∀ g, g < w.heap.size → ¬ own (ρ b) g → w'.heap[g]? = w.heap[g]?)
    (hb : b < h.length) (hi : HBIs π ρ w' b it) : HSat π ρ (h.set b it) w' := by
  refine ⟨?_, ?_, ?_, ?_, ?_, ?_⟩
  · intro k x hk
    rw [List.getElem?_set] at hk
    by_cases hkb : b = k
    · subst hkb
      rw [if_pos rfl, if_pos hb] at hk
      simp only [Option.some.injEq] at hk
      subst hk
      exact hi
    · rw [if_neg hkb] at hk
      have hkl := (List.getElem?_eq_some_iff.1 hk).1
      exact hb_keep (fun _ _ h => h) (fun _ _ h => h) rfl (fun g hr => hw g (H.lt k hkl g hr) (fun hr' => hkb (H.inj b k g hb hkl hr' hr))) x (H.items k x hk)
  · intro k hk g hr
    rw [List.length_set] at hk
    exact Nat.lt_of_lt_of_le (H.lt k hk g hr) hs
  · intro k k' g hk hk' h1 h2
    rw [List.length_set] at hk hk'
    exact H.inj k k' g hk hk' h1 h2
  · intro k g hk hr
    rw [List.length_set] at hk
    exact H.apart k g hk hr
  · refine ⟨fun g vs hg => ?_, H.pers.2⟩
    obtain ⟨e, f, he⟩ := H.pers.1 g vs hg
    refine ⟨e, f, ?_⟩
    rw [hw g (Array.getElem?_eq_some_iff.1 he).1 (fun hr => by rw [H.apart b g hb hr] at hg; cases hg)]
    exact he
  · intro k hk
    rw [List.length_set] at hk
    exact H.out k hk
/-- Block b goes elsewhere: whatever spoke of it is forgotten. -/
theorem hsat_move {π : Pers} {ρ : Env} {h : List HB} {w w' : World} (H : HSat π ρ h w) (b : Nat) (it : HB) (r : Option (Nat × Nat × Nat × List Nat)) (hs : w.heap.size ≤ w'.heap.size) (hw : ∀ g, g < w.heap.size → ¬ own (ρ b) g → w'.heap[g]? = w.heap[g]?)
    (hb : b < h.length) (hr : ∀ g, own r g → (own (ρ b) g ∨ w.heap.size ≤ g) ∧ g < w'.heap.size) (hi : HBIs π (updE ρ b r) w' b it) : HSat π (updE ρ b r) ((h.map (jkH b)).set b it) w' := by
  have hne : ∀ k, k < h.length → k ≠ b → ∀ g, own (ρ k) g → own r g → False := by
    intro k hk hkb g h1 h2
    rcases (hr g h2).1 with h3 | h3
    · exact hkb (H.inj k b g hk hb h1 h3)
    · exact absurd (H.lt k hk g h1) (by omega)
  refine ⟨?_, ?_, ?_, ?_, ?_, ?_⟩
  · intro k x hk
    rw [List.getElem?_set] at hk
    by_cases hkb : b = k
    · subst hkb
      rw [if_pos rfl, if_pos (by simpa using hb)] at hk
      simp only [Option.some.injEq] at hk
      subst hk
      exact hi
    · rw [if_neg hkb, List.getElem?_map, Option.map_eq_some_iff] at hk
      obtain ⟨y, hy, rfl⟩ := hk
      have hkl := (List.getElem?_eq_some_iff.1 hy).1
      exact hb_jk (fun _ _ h => h) (fun k hk => updE_other ρ r hk) (fun e => hkb e.symm) (fun g hr => hw g (H.lt k hkl g hr) (fun hr' => hkb (H.inj b k g hb hkl hr' hr))) y (H.items k y hy)
  · intro k hk g h1
    rw [List.length_set, List.length_map] at hk
    by_cases hkb : k = b
    · subst hkb; rw [updE_same] at h1; exact (hr g h1).2
    · rw [updE_other ρ r hkb] at h1; exact Nat.lt_of_lt_of_le (H.lt k hk g h1) hs
  · intro k k' g hk hk' h1 h2
    rw [List.length_set, List.length_map] at hk hk'
    by_cases hkb : k = b <;> by_cases hkb' : k' = b
    · rw [hkb, hkb']
    · subst hkb; rw [updE_same] at h1; rw [updE_other ρ r hkb'] at h2; exact (hne k' hk' hkb' _ h2 h1).elim
    · subst hkb'; rw [updE_same] at h2; rw [updE_other ρ r hkb] at h1; exact (hne k hk hkb _ h1 h2).elim
    · rw [updE_other ρ r hkb] at h1; rw [updE_other ρ r hkb'] at h2; exact H.inj k k' g hk hk' h1 h2
  · intro k g hk h1
    rw [List.length_set, List.length_map] at hk
    by_cases hkb : k = b
    · subst hkb
      rw [updE_same] at h1
      rcases (hr g h1).1 with h3 | h3
      · exact H.apart k g hk h3
      · cases hg : π g with
        | none => rfl
        | some vs => obtain ⟨e, f, he⟩ := H.pers.1 g vs hg; exact absurd (Array.getElem?_eq_some_iff.1 he).1 (by omega)
    · rw [updE_other ρ r hkb] at h1; exact H.apart k g hk h1
  · refine ⟨fun g vs hg => ?_, H.pers.2⟩
    obtain ⟨e, f, he⟩ := H.pers.1 g vs hg
    refine ⟨e, f, ?_⟩
    rw [hw g (Array.getElem?_eq_some_iff.1 he).1 (fun hr => by rw [H.apart b g hb hr] at hg; cases hg)]
    exact he
  · intro k hk
    rw [List.length_set, List.length_map] at hk
    rw [updE_other ρ r (by omega)]
    exact H.out k hk
/-- A block more. -/
theorem hsat_new {π : Pers} {ρ : Env} {h : List HB} {w w' : World} (H : HSat π ρ h w) (it : HB) (r : Option (Nat × Nat × Nat × List Nat)) (hs : w.heap.size ≤ w'.heap.size) (hw : ∀ g, g < w.heap.size → w'.heap[g]? = w.heap[g]?)
    (hr : ∀ g, own r g → w.heap.size ≤ g ∧ g < w'.heap.size) (hi : HBIs π (updE ρ h.length r) w' h.length it) : HSat π (updE ρ h.length r) (h ++ [it]) w' := by
  have hup : ∀ b x, ρ b = some x → updE ρ h.length r b = some x := by
    intro b x hb
    by_cases hbl : b = h.length
    · subst hbl; rw [H.out _ (Nat.le_refl _)] at hb; cases hb
    · rw [updE_other ρ r hbl]; exact hb
  refine ⟨?_, ?_, ?_, ?_, ?_, ?_⟩
  · intro k x hk
    by_cases hkl : k < h.length
    · rw [List.getElem?_append_left hkl] at hk
      exact hb_keep (fun _ _ h => h) hup (updE_other ρ r (by omega)) (fun g hr => hw g (H.lt k hkl g hr)) x (H.items k x hk)
    · have hlt := (List.getElem?_eq_some_iff.1 hk).1
      simp only [List.length_append, List.length_cons, List.length_nil] at hlt
      obtain rfl : k = h.length := by omega
      rw [List.getElem?_append_right (Nat.le_refl _)] at hk
      simp only [Nat.sub_self, List.getElem?_cons_zero, Option.some.injEq] at hk
      subst hk
      exact hi
  · intro k hk g h1
    simp only [List.length_append, List.length_cons, List.length_nil] at hk
    by_cases hkb : k = h.length
    · subst hkb; rw [updE_same] at h1; exact (hr g h1).2
    · rw [updE_other ρ r hkb] at h1; exact Nat.lt_of_lt_of_le (H.lt k (by omega) g h1) hs
  · intro k k' g hk hk' h1 h2
    simp only [List.length_append, List.length_cons, List.length_nil] at hk hk'
    by_cases hkb : k = h.length <;> by_cases hkb' : k' = h.length
    · rw [hkb, hkb']
    · subst hkb; rw [updE_same] at h1; rw [updE_other ρ r hkb'] at h2; exact absurd (H.lt k' (by omega) _ h2) (by have := (hr _ h1).1; omega)
    · subst hkb'; rw [updE_same] at h2; rw [updE_other ρ r hkb] at h1; exact absurd (H.lt k (by omega) _ h1) (by have := (hr _ h2).1; omega)
    · rw [updE_other ρ r hkb] at h1; rw [updE_other ρ r hkb'] at h2; exact H.inj k k' g (by omega) (by omega) h1 h2
  · intro k g hk h1
    simp only [List.length_append, List.length_cons, List.length_nil] at hk
    by_cases hkb : k = h.length
    · subst hkb
      rw [updE_same] at h1
      cases hg : π g with
      | none => rfl
      | some vs => obtain ⟨e, f, he⟩ := H.pers.1 g vs hg; exact absurd (Array.getElem?_eq_some_iff.1 he).1 (by have := (hr _ h1).1; omega)
    · rw [updE_other ρ r hkb] at h1; exact H.apart k g (by omega) h1
  · refine ⟨fun g vs hg => ?_, H.pers.2⟩
    obtain ⟨e, f, he⟩ := H.pers.1 g vs hg
    exact ⟨e, f, by rw [hw g (Array.getElem?_eq_some_iff.1 he).1]; exact he⟩
  · intro k hk
    simp only [List.length_append, List.length_cons, List.length_nil] at hk
    rw [updE_other ρ r (by omega)]
    exact H.out k (by omega)
theorem upE_new {π : Pers} {ρ : Env} {h : List HB} {w : World} (H : HSat π ρ h w) (r : Option (Nat × Nat × Nat × List Nat)) : ∀ b x, ρ b = some x → updE ρ h.length r b = some x := by
  intro b x hb
  by_cases hbl : b = h.length
  · subst hbl; rw [H.out _ (Nat.le_refl _)] at hb; cases hb
  · rw [updE_other ρ r hbl]; exact hb

/-! ### slots -/
theorem slot_put {π : Pers} {ρ : Env} {T : Array Value} {i d : Nat} (u : Value) (hne : i ≠ d) : ∀ (s : SV), s.hangs d = false → SlotIs π ρ T i s → SlotIs π ρ (T.setIfInBounds d u) i s
  | .p x, _, ⟨v, h1, h2⟩ => ⟨v, by rw [Array.getElem?_setIfInBounds_ne (fun e => hne e.symm)]; exact h1, h2⟩
  | .tup l, _, ⟨v, h1, h2⟩ => ⟨v, by rw [Array.getElem?_setIfInBounds_ne (fun e => hne e.symm)]; exact h1, h2⟩
  | .gd j b x, hh, ⟨v, h1, h2⟩ => by
    have hj : j ≠ d := beq_ne hh
    refine ⟨v, by rw [Array.getElem?_setIfInBounds_ne (fun e => hne e.symm)]; exact h1, ?_⟩
    rw [Array.getElem?_setIfInBounds_ne (fun e => hj e.symm)]
    exact h2
theorem rm_hangs : ∀ {fr : List (Nat × SV)} {i k : Nat} {v : SV}, lk (rm fr i) k = some v → lk fr k = some v ∨ ∃ x, lk fr k = some x ∧ x.hangs i = true := by
  intro fr
  induction fr with
  | nil => intro i k v h; simp [rm, lk] at h
  | cons p r ih =>
    intro i k v h
    obtain ⟨j, u⟩ := p
    simp only [rm] at h
    cases hb : (Nat.beq j i || u.hangs i) with
    | true =>
      rw [hb] at h
      have hk := lk_rm r i k v h
      simp only [lk]
      cases hj : Nat.beq j k with
      | true =>
        have : j = k := Nat.eq_of_beq_eq_true hj
        subst this
        have hne : Nat.beq j i = false := by cases hh : Nat.beq j i with | false => rfl | true => exact absurd (Nat.eq_of_beq_eq_true hh) hk.1
        rw [hne, Bool.false_or] at hb
        exact .inr ⟨u, rfl, hb⟩
      | false => exact ih h
    | false =>
      rw [hb] at h
      simp only [cond_false, lk] at h ⊢
      cases hj : Nat.beq j k with
      | true => rw [hj] at h; exact .inl h
      | false => rw [hj] at h; exact ih h
theorem lk_rm_once : ∀ {fr : List (Nat × SV)} {i k : Nat} {v : SV}, once fr = true → lk (rm fr i) k = some v → lk fr k = some v
  | [], i, k, v, _, h => by simp [rm, lk] at h
  | (j, u) :: r, i, k, v, ho, h => by
    simp only [once, Bool.and_eq_true] at ho
    simp only [rm] at h
    cases hb : (Nat.beq j i || u.hangs i) with
    | true =>
      rw [hb] at h
      have h' := lk_rm_once ho.2 h
      simp only [lk]
      cases hj : Nat.beq j k with
      | true =>
        have : j = k := Nat.eq_of_beq_eq_true hj
        subst this
        rw [h'] at ho
        exact absurd ho.1 (by simp)
      | false => exact h'
    | false =>
      rw [hb] at h
      simp only [cond_false, lk] at h ⊢
      cases hj : Nat.beq j k with
      | true => rw [hj] at h; exact h
      | false => rw [hj] at h; exact lk_rm_once ho.2 h
theorem once_rm : ∀ {fr : List (Nat × SV)} {i : Nat}, once fr = true → once (rm fr i) = true
  | [], _, _ => rfl
  | (j, u) :: r, i, h => by
    simp only [once, Bool.and_eq_true] at h
    simp only [rm]
    cases hb : (Nat.beq j i || u.hangs i) with
    | true => exact once_rm h.2
    | false =>
      simp only [cond_false, once, Bool.and_eq_true]
      refine ⟨?_, once_rm h.2⟩
      cases hl : lk (rm r i) j with
      | none => rfl
      | some x => rw [lk_rm_once h.2 hl] at h; exact absurd h.1 (by simp)
theorem once_up {fr : List (Nat × SV)} {i : Nat} {v : SV} (h : once fr = true) : once (up fr i v) = true := by
  simp only [up, once, Bool.and_eq_true]
  refine ⟨?_, once_rm h⟩
  cases hl : lk (rm fr i) i with
  | none => rfl
  | some x => exact absurd rfl (lk_rm fr i i x hl).1
end Go.Proofs.Ytckijackbldkhaa.Sx
namespace Go.Proofs.Ytckijackbldkhaa.Sx
open Go
set_option linter.unusedVariables false
set_option linter.unusedSimpArgs false

def constC : Value → Option CV
  | .int k n => some (.int k n)
  | .bool b => some (.bool b)
  | .string s => bif Nat.ble s.size maxI then some (.str s) else none
  | .pointer none => some .nilp
  | .slice none 0 0 => some .nils
  | .nilIface => some .nili
  | .map none => some .nilm
  | .nilFunc => some .nilf
  | _ => none
def constCs : List Value → Option (List CV)
  | [] => some []
  | v :: r => match constC v with
    | some c => match constCs r with
      | some cs => some (c :: cs)
      | none => none
    | none => none
def constP : Value → Option PV
  | .agg vs => match constCs vs.toList with
    | some cs => some (.agg cs)
    | none => none
  | v => match constC v with
    | some c => some (.c c)
    | none => none
theorem constC_ok {π : Pers} {ρ : Env} : ∀ {v : Value} {c : CV}, constC v = some c → DenC π ρ c v ∧ v.oneCell' = true := by
  intro v c h
  unfold constC at h
  split at h
  · cases h; exact ⟨rfl, rfl⟩
  · cases h; exact ⟨rfl, rfl⟩
  · rename_i s
    cases hb : Nat.ble s.size maxI with
    | true => rw [hb] at h; cases h; exact ⟨⟨rfl, Nat.le_of_ble_eq_true hb⟩, rfl⟩
    | false => rw [hb] at h; cases h
  · cases h; exact ⟨rfl, rfl⟩
  · cases h; exact ⟨rfl, rfl⟩
  · cases h; exact ⟨rfl, rfl⟩
  · cases h; exact ⟨rfl, rfl⟩
  · cases h; exact ⟨rfl, rfl⟩
  · cases h
theorem constCs_ok {π : Pers} {ρ : Env} : ∀ {vs : List Value} {cs : List CV}, constCs vs = some cs → All2 (DenC π ρ) cs vs ∧ ∀ u ∈ vs, u.oneCell' = true
  | [], cs, h => by simp [constCs] at h; subst h; exact ⟨trivial, by simp⟩
  | v :: r, cs, h => by
    simp only [constCs] at h
    split at h
    · rename_i c hc
      split at h
      · rename_i cs' hcs
        cases h
        obtain ⟨h1, h2⟩ := constC_ok (π := π) (ρ := ρ) hc
        obtain ⟨h3, h4⟩ := constCs_ok (π := π) (ρ := ρ) hcs
        refine ⟨⟨h1, h3⟩, fun u hu => ?_⟩
        rcases List.mem_cons.1 hu with rfl | hu
        · exact h2
        · exact h4 u hu
      · cases h
    · cases h
theorem constP_ok {π : Pers} {ρ : Env} {v : Value} {c : PV} (h : constP v = some c) : DenP π ρ c v := by
  unfold constP at h
  split at h
  · rename_i vs
    split at h
    · rename_i cs hcs
      cases h
      exact ⟨vs.toList, by simp, (constCs_ok hcs).1⟩
    · cases h
  · split at h
    · rename_i c' hc
      cases h
      exact (constC_ok hc).1
    · cases h

def memG : List (Nat × Bool) → Nat → Bool → Bool
  | [], _, _ => false
  | (j, b) :: r, i, c => (Nat.beq j i && (b == c)) || memG r i c
/-- What an operand holds, where the guards gs hold. -/
def evL (s : SS) (gs : List (Nat × Bool)) : Operand → Option PV
  | .tmp t => match lk s.fr t with
    | some (.p x) => some x
    | some (.gd j b x) => bif memG gs j b then some x else none
    | _ => none
  | .const v => constP v
  | .func f => some (.c (.func f))
  | .global _ => none
def GH (gs : List (Nat × Bool)) (T : Array Value) : Prop := ∀ j b, memG gs j b = true → T[j]? = some (.bool b)
theorem gh_nil (T : Array Value) : GH [] T := fun j b h => by cases h
theorem gh_cons {gs : List (Nat × Bool)} {T : Array Value} {d : Nat} {b : Bool} (h : GH gs T) (hd : T[d]? = some (.bool b)) : GH ((d, b) :: gs) T := by
  intro j c hj
  simp only [memG, Bool.or_eq_true, Bool.and_eq_true, beq_iff_eq] at hj
  rcases hj with ⟨h1, h2⟩ | hj
  · have := Nat.eq_of_beq_eq_true h1; subst this h2; exact hd
  · exact h j c hj
theorem evL_ok {π : Pers} {ρ : Env} {s : SS} {a : Act} {w : World} (S : Sat π ρ s a w) {gs : List (Nat × Bool)} (hg : GH gs a.tmps) {x : Operand} {c : PV} (h : evL s gs x = some c) : DenP π ρ c (a.eval x) := by
  cases x with
  | tmp t =>
    simp only [evL] at h
    split at h
    · rename_i y hy
      cases h
      obtain ⟨v, h1, h2⟩ := S.fs t _ hy
      simpa [Act.eval, Array.getD_eq_getD_getElem?, h1] using h2
    · rename_i j b y hy
      cases hb : memG gs j b with
      | false => rw [hb] at h; cases h
      | true =>
        rw [hb] at h
        cases h
        obtain ⟨v, h1, h2⟩ := S.fs t _ hy
        rcases h2 with ⟨_, h2⟩ | ⟨h2, _⟩
        · simpa [Act.eval, Array.getD_eq_getD_getElem?, h1] using h2
        · exact absurd (hg j b hb) h2
    · cases h
  | const v => exact constP_ok h
  | func f => simp only [evL, Option.some.injEq] at h; subst h; rfl
  | global g => cases h

abbrev PR := Option (List Prop × List Prop × PV)
def obl : List Prop → Prop → Prop
  | [], K => K
  | p :: ps, K => p ∧ obl ps K
def fct : List Prop → Prop → Prop
  | [], K => K
  | p :: ps, K => p → fct ps K
def allP : List Prop → Prop
  | [] => True
  | p :: ps => p ∧ allP ps
theorem obl_out {K : Prop} : ∀ {ps : List Prop}, obl ps K → allP ps ∧ K
  | [], h => ⟨trivial, h⟩
  | _ :: _, h => ⟨⟨h.1, (obl_out h.2).1⟩, (obl_out h.2).2⟩
theorem fct_out {K : Prop} : ∀ {ps : List Prop}, fct ps K → allP ps → K
  | [], h, _ => h
  | _ :: _, h, hp => fct_out (h hp.1) hp.2

def strEq (a b : ByteArray) : Bool := a.toList == b.toList
theorem strEq_iff (a b : ByteArray) : strEq a b = true ↔ a = b := by
  unfold strEq
  rw [beq_iff_eq, ByteArray.toList_eq, ByteArray.toList_eq]
  obtain ⟨⟨x⟩⟩ := a
  obtain ⟨⟨y⟩⟩ := b
  simp
def strLt (a b : ByteArray) : Bool := Op.bytesLess a.toList b.toList
def isPtr (P : Program) (t : TypeId) : Bool := match P.underlying t with | some (.pointer _) => true | _ => false
def isSl (P : Program) (t : TypeId) : Bool := match P.underlying t with | some (.slice _) => true | _ => false
def isBl (P : Program) (t : TypeId) : Bool := match P.underlying t with | some .bool => true | _ => false
def isIf (P : Program) (t : TypeId) : Bool := match P.underlying t with | some (.interface _) => true | _ => false
def isSt (P : Program) (t : TypeId) : Bool := match P.underlying t with | some .string => true | _ => false
def isIn (P : Program) (t : TypeId) : Bool := match P.underlying t with | some (.int _) => true | _ => false
/-- '==' of two cells of a type. -/
def eqC (P : Program) (t : TypeId) : CV → CV → Option Bool
  | .int k a, .int k' b => bif isIn P t && decide (k = k') then some (a == b) else none
  | .bool a, .bool b => bif isBl P t then some (a == b) else none
  | .str a, .str b => bif isSt P t then some (strEq a b) else none
  | .nilp, .nilp => bif isPtr P t then some true else none
  | .nilp, .ptr _ _ => bif isPtr P t then some false else none
  | .nilp, .rptr _ _ _ _ => bif isPtr P t then some false else none
  | .nilp, .eptr _ _ _ _ => bif isPtr P t then some false else none
  | .ptr _ _, .nilp => bif isPtr P t then some false else none
  | .rptr _ _ _ _, .nilp => bif isPtr P t then some false else none
  | .eptr _ _ _ _, .nilp => bif isPtr P t then some false else none
  | .nils, .nils => bif isSl P t then some true else none
  | .nili, .nili => bif isIf P t then some true else none
  | _, _ => none
theorem eqC_ok {P : Program} {π : Pers} {ρ : Env} {t : TypeId} {x y : CV} {u v : Value} {r : Bool} (hx : DenC π ρ x u) (hy : DenC π ρ y v) (h : eqC P t x y = some r) (d : Nat) (w : World) : (Op.equalIn (d + 1) t u v).run P w = .ok r w := by
  unfold eqC at h
  split at h
  · rename_i k a k' b
    cases hb : (isIn P t && decide (k = k')) with
    | false => rw [hb] at h; cases h
    | true =>
      rw [hb] at h
      cases h
      simp only [Bool.and_eq_true, decide_eq_true_eq, isIn] at hb
      obtain ⟨h1, rfl⟩ := hb
      split at h1
      · rename_i k'' hu
        simp only [DenC] at hx hy
        subst hx hy
        exact run_equalIn_int w d t _ k'' a b hu
      · cases h1
  · rename_i a b
    cases hb : isBl P t with
    | false => rw [hb] at h; cases h
    | true =>
      rw [hb] at h
      cases h
      simp only [isBl] at hb
      split at hb
      · rename_i hu
        simp only [DenC] at hx hy
        subst hx hy
        exact run_equalIn_bool' w d t a b hu
      · cases hb
  · rename_i a b
    cases hb : isSt P t with
    | false => rw [hb] at h; cases h
    | true =>
      rw [hb] at h
      cases h
      simp only [isSt] at hb
      split at hb
      · rename_i hu
        obtain ⟨hx, _⟩ := hx
        obtain ⟨hy, _⟩ := hy
        subst hx hy
        exact run_equalIn_string w d t a b hu
      · cases hb
  all_goals try
    (cases hb : isPtr P t with
    | false => rw [hb] at h; cases h
    | true =>
      rw [hb] at h
      cases h
      simp only [isPtr] at hb
      split at hb
      · rename_i hu
        first
        | (simp only [DenC] at hx hy; subst hx hy; simp [Op.equalIn, run_underlying hu]; done)
        | (obtain ⟨g, o, n, _, hx⟩ := hx; simp only [DenC] at hy; subst hx hy; simp [Op.equalIn, run_underlying hu]; done)
        | (obtain ⟨g, o, n, _, hy⟩ := hy; simp only [DenC] at hx; subst hx hy; simp [Op.equalIn, run_underlying hu]; done)
        | (obtain ⟨g, o, n, _, _, hx⟩ := hx; simp only [DenC] at hy; subst hx hy; simp [Op.equalIn, run_underlying hu]; done)
        | (obtain ⟨g, o, n, _, _, hy⟩ := hy; simp only [DenC] at hx; subst hx hy; simp [Op.equalIn, run_underlying hu]; done)
      · cases hb)
  · cases hb : isSl P t with
    | false => rw [hb] at h; cases h
    | true =>
      rw [hb] at h
      cases h
      simp only [isSl] at hb
      split at hb
      · rename_i hu
        simp only [DenC] at hx hy
        subst hx hy
        simp [Op.equalIn, run_underlying hu]
      · cases hb
  · cases hb : isIf P t with
    | false => rw [hb] at h; cases h
    | true =>
      rw [hb] at h
      cases h
      simp only [isIf] at hb
      split at hb
      · rename_i hu
        simp only [DenC] at hx hy
        subst hx hy
        simp [Op.equalIn, run_underlying hu]
      · cases hb
  · cases h

/-! ### structs: parts, '==' -/
def isAggB (P : Program) (t : TypeId) : Option Bool := match P.underlying t with
  | some (.struct _) => some true
  | some (.array _ _) => some true
  | some _ => some false
  | none => none
def szOf (P : Program) (t : TypeId) : Option Nat := match P.info? t with | some i => some i.size | none => none
def segC (l : List CV) (o n : Nat) : List CV := (l.drop o).take n
def partC (P : Program) (t : TypeId) (cs : List CV) (off : Nat) : Option PV :=
  match isAggB P t with
  | some true => match szOf P t with
    | some n => some (.agg (segC cs off n))
    | none => none
  | some false => match cs[off]? with
    | some c => some (.c c)
    | none => none
  | none => none
theorem run_isAgg {P : Program} {t : TypeId} {b : Bool} (h : isAggB P t = some b) (w : World) : (isAgg t).run P w = .ok b w := by
  unfold isAggB at h
  split at h <;> simp only [Option.some.injEq, reduceCtorEq] at h <;> subst h
  · rename_i hu; simp [isAgg, run_underlying hu]
  · rename_i hu; simp [isAgg, run_underlying hu]
  · rename_i d h1 h2 hu
    simp only [isAgg, Sem.run_bind, run_underlying hu, Result.andThen_ok]
    rfl
theorem run_sizeOf {P : Program} {t : TypeId} {n : Nat} (h : szOf P t = some n) (w : World) : (sizeOf t).run P w = .ok n w := by
  unfold szOf at h
  split at h
  · rename_i i hi; simp only [Option.some.injEq] at h; subst h; simp [sizeOf, typeInfo, hi]
  · cases h
theorem partC_ok {P : Program} {π : Pers} {ρ : Env} {t : TypeId} {cs : List CV} {vs : List Value} {off : Nat} {r : PV} (hc : All2 (DenC π ρ) cs vs) (h : partC P t cs off = some r) : ∃ v, (∀ w : World, (part t vs.toArray off).run P w = .ok v w) ∧ DenP π ρ r v := by
  unfold partC at h
  split at h
  · rename_i hb
    split at h
    · rename_i n hn
      cases h
      refine ⟨.agg (vs.toArray.extract off (off + n)), by simp [part, run_isAgg hb, run_sizeOf hn], (vs.drop off).take n, ?_, all2_take (all2_drop hc off) n⟩
      simp [List.extract_toArray, List.extract_eq_take_drop]
    · cases h
  · rename_i hb
    split at h
    · rename_i c hcc
      cases h
      obtain ⟨u, hu, hd⟩ := all2_get hc off c hcc
      exact ⟨u, by simp [part, run_isAgg hb, hu], hd⟩
    · cases h
  · cases h
def eqFs (P : Program) (E : TypeId → PV → PV → Option Bool) (xs ys : List CV) : List Field → Option Bool
  | [] => some true
  | f :: fs => bif f.name == "_" then eqFs P E xs ys fs else
    match partC P f.type xs f.offset, partC P f.type ys f.offset with
    | some a, some b => match E f.type a b, eqFs P E xs ys fs with
      | some r, some s => some (r && s)
      | _, _ => none
    | _, _ => none
def eqV (P : Program) : Nat → TypeId → PV → PV → Option Bool
  | 0, _, _, _ => none
  | d + 1, t, .c a, .c b => eqC P t a b
  | d + 1, t, .agg xs, .agg ys => match P.underlying t with
    | some (.struct fs) => bif P.stoodInHeld t then none else eqFs P (eqV P d) xs ys fs.toList
    | _ => none
  | _, _, _, _ => none
theorem eqFs_ok {P : Program} {π : Pers} {ρ : Env} {E : TypeId → PV → PV → Option Bool} {D : Nat} {xs ys : List CV} {us vs : List Value} (hx : All2 (DenC π ρ) xs us) (hy : All2 (DenC π ρ) ys vs) (w : World)
    (hE : ∀ t a b u v r, DenP π ρ a u → DenP π ρ b v → E t a b = some r → (Op.equalIn D t u v).run P w = .ok r w) : ∀ (fs : List Field) (r : Bool), eqFs P E xs ys fs = some r → (Op.eqFields D us.toArray vs.toArray fs).run P w = .ok r w
  | [], r, h => by simp only [eqFs, Option.some.injEq] at h; subst h; simp [Op.eqFields]
  | f :: fs, r, h => by
    simp only [eqFs] at h
    cases hn : (f.name == "_") with
    | true =>
      rw [hn] at h
      have := eqFs_ok hx hy w hE fs r h
      have hn' : ¬ (f.name ≠ "_") := by simpa using hn
      rw [Op.eqFields, if_neg hn']
      exact this
    | false =>
      rw [hn] at h
      simp only [cond_false] at h
      split at h
      · rename_i a b ha hb
        split at h
        · rename_i r1 s1 hr hs
          simp only [Option.some.injEq] at h
          subst h
          obtain ⟨u, hu, hdu⟩ := partC_ok hx ha
          obtain ⟨v, hv, hdv⟩ := partC_ok hy hb
          have he := hE _ _ _ _ _ _ hdu hdv hr
          have ih := eqFs_ok hx hy w hE fs s1 hs
          have hn' : f.name ≠ "_" := by simpa using hn
          rw [Op.eqFields]
          simp only [if_pos hn', Sem.run_bind, hu, hv, he, Result.andThen_ok]
          cases r1
          · simp
          · simpa using ih
        · cases h
      · cases h
theorem eqV_ok {P : Program} {π : Pers} {ρ : Env} (w : World) : ∀ (d m : Nat) (t : TypeId) (a b : PV) (u v : Value) (r : Bool), DenP π ρ a u → DenP π ρ b v → eqV P d t a b = some r → (Op.equalIn (d + m) t u v).run P w = .ok r w
  | 0, m, t, a, b, u, v, r, _, _, h => by simp [eqV] at h
  | d + 1, m, t, .c a, .c b, u, v, r, ha, hb, h => by
    rw [show d + 1 + m = (d + m) + 1 by omega]
    exact eqC_ok ha hb h _ w
  | d + 1, m, t, .agg xs, .agg ys, u, v, r, ⟨us, hu, hx⟩, ⟨vs, hv, hy⟩, h => by
    simp only [eqV] at h
    split at h
    · rename_i fs hf
      cases hp : P.stoodInHeld t with
      | true => rw [hp] at h; cases h
      | false =>
        rw [hp] at h
        simp only [cond_false] at h
        subst hu hv
        have hfo : P.fieldsOf t = fs := by simp [Program.fieldsOf, hf]
        rw [show d + 1 + m = (d + m) + 1 by omega, run_equalIn_struct (P := P) w (d + m) t _ _ (by rw [hfo]; exact hf) hp, hfo]
        exact eqFs_ok hx hy w (fun t a b u v r ha hb hr => eqV_ok w d m t a b u v r ha hb hr) _ _ h
    · cases h
  | d + 1, m, t, .c a, .agg ys, u, v, r, _, _, h => by simp [eqV] at h
  | d + 1, m, t, .agg xs, .c b, u, v, r, _, _, h => by simp [eqV] at h
  | d + 1, m, t, .clo f xs, b, u, v, r, _, _, h => by cases b <;> simp [eqV] at h
  | d + 1, m, t, .c a, .clo f xs, u, v, r, _, _, h => by simp [eqV] at h
  | d + 1, m, t, .agg a, .clo f xs, u, v, r, _, _, h => by simp [eqV] at h
end Go.Proofs.Ytckijackbldkhaa.Sx
namespace Go.Proofs.Ytckijackbldkhaa.Sx
open Go
set_option linter.unusedVariables false
set_option linter.unusedSimpArgs false

def toCV : (t : Ty) → t.T → List CV
  | .int k, n => [.int k n]
  | .bool, b => [.bool b]
  | .str, s => [.str s]
  | .unit, _ => []
  | .prod a b, x => toCV a x.1 ++ toCV b x.2
  | .row t, xs => [.row t xs]
  | .fix t, x => toCV t x
theorem toCV_ok {π : Pers} {ρ : Env} : ∀ (t : Ty) (x : t.T) (cs : List Value), Rep π t x cs → All2 (DenC π ρ) (toCV t x) cs
  | .int k, n, cs, h => by simp only [Rep] at h; subst h; exact ⟨rfl, trivial⟩
  | .bool, b, cs, h => by simp only [Rep] at h; subst h; exact ⟨rfl, trivial⟩
  | .str, s, cs, h => by obtain ⟨rfl, h⟩ := h; exact ⟨⟨rfl, h⟩, trivial⟩
  | .unit, _, cs, h => by simp only [Rep] at h; subst h; trivial
  | .prod a b, x, cs, h => by
    obtain ⟨c, d, rfl, h1, h2⟩ := h
    exact all2_append (toCV_ok a _ _ h1) (toCV_ok b _ _ h2)
  | .row t, xs, cs, h => by obtain ⟨v, rfl, h⟩ := h; exact ⟨h, trivial⟩
  | .fix t, x, cs, h => toCV_ok t x cs h
def fromCV : (t : Ty) → List CV → Option (t.T × List CV)
  | .int k, l => match l with
    | .int k' n :: r => bif decide (k' = k) then some (n, r) else none
    | _ => none
  | .bool, l => match l with
    | .bool b :: r => some (b, r)
    | _ => none
  | .str, l => match l with
    | .str s :: r => some (s, r)
    | _ => none
  | .unit, l => some ((), l)
  | .prod a b, l => match fromCV a l with
    | some (x, r) => match fromCV b r with
      | some (y, r') => some ((x, y), r')
      | none => none
    | none => none
  | .row t, l => match l with
    | .row t' xs :: r => if h : t' = t then some (h ▸ xs, r) else none
    | .nils :: r => some (([] : List t.T), r)
    | _ => none
  | .fix t, l => fromCV t l
theorem fromCV_ok {π : Pers} {ρ : Env} : ∀ (t : Ty) (l : List CV) (vs : List Value) (x : t.T) (r : List CV), All2 (DenC π ρ) l vs → fromCV t l = some (x, r) → ∃ v1 v2, vs = v1 ++ v2 ∧ Rep π t x v1 ∧ All2 (DenC π ρ) r v2
  | .int k, l, vs, x, r, ha, h => by
    simp only [fromCV] at h
    split at h
    · rename_i k' n r'
      cases hb : decide (k' = k) with
      | false => rw [hb] at h; cases h
      | true =>
        rw [hb] at h
        cases h
        have := of_decide_eq_true hb
        subst this
        match vs, ha with
        | v :: vs', ha => exact ⟨[v], vs', rfl, by obtain ⟨ha, _⟩ := ha; simp only [DenC] at ha; subst ha; rfl, ha.2⟩
    · cases h
  | .bool, l, vs, x, r, ha, h => by
    simp only [fromCV] at h
    split at h
    · cases h
      match vs, ha with
      | v :: vs', ha => exact ⟨[v], vs', rfl, by obtain ⟨ha, _⟩ := ha; simp only [DenC] at ha; subst ha; rfl, ha.2⟩
    · cases h
  | .str, l, vs, x, r, ha, h => by
    simp only [fromCV] at h
    split at h
    · cases h
      match vs, ha with
      | v :: vs', ha => exact ⟨[v], vs', rfl, by obtain ⟨⟨ha, hs⟩, _⟩ := ha; subst ha; exact ⟨rfl, hs⟩, ha.2⟩
    · cases h
  | .unit, l, vs, x, r, ha, h => by
    simp only [fromCV, Option.some.injEq, Prod.mk.injEq] at h
    obtain ⟨_, rfl⟩ := h
    exact ⟨[], vs, rfl, rfl, ha⟩
  | .prod a b, l, vs, x, r, ha, h => by
    simp only [fromCV] at h
    split at h
    · rename_i y r1 h1
      split at h
      · rename_i z r2 h2
        cases h
        obtain ⟨v1, v2, rfl, hr1, ha1⟩ := fromCV_ok a _ _ _ _ ha h1
        obtain ⟨v3, v4, rfl, hr2, ha2⟩ := fromCV_ok b _ _ _ _ ha1 h2
        exact ⟨v1 ++ v3, v4, by rw [List.append_assoc], ⟨v1, v3, rfl, hr1, hr2⟩, ha2⟩
      · cases h
    · cases h
  | .row t, l, vs, x, r, ha, h => by
    simp only [fromCV] at h
    split at h
    · rename_i t' xs r'
      split at h
      · rename_i he
        subst he
        cases h
        match vs, ha with
        | v :: vs', ha => exact ⟨[v], vs', rfl, ⟨v, rfl, ha.1⟩, ha.2⟩
      · cases h
    · cases h
      match vs, ha with
      | v :: vs', ha =>
        obtain ⟨ha1, ha2⟩ := ha
        simp only [DenC] at ha1
        subst ha1
        exact ⟨[_], vs', rfl, ⟨_, rfl, none, 0, rfl, Nat.le_refl _, by simp [maxLen], .inl rfl⟩, ha2⟩
    · cases h
  | .fix t, l, vs, x, r, ha, h => fromCV_ok t l vs x r ha h
def nth {α : Type} : List α → Nat → Option α
  | [], _ => none
  | a :: _, 0 => some a
  | _ :: r, n + 1 => nth r n
theorem nth_eq {α : Type} : ∀ (l : List α) (n : Nat), nth l n = l[n]?
  | [], n => by simp [nth]
  | a :: _, 0 => rfl
  | _ :: r, n + 1 => by simp only [nth, List.getElem?_cons_succ]; exact nth_eq r n

/-- The cells behind an address: what they hold, and where in them the address points. -/
def cellsAt (s : SS) : PV → Option (List Prop × List CV × Nat)
  | .c (.ptr b off) => match nth s.hp b with
    | some (.cells _ cs) => some ([], cs, off)
    | _ => none
  | .c (.rptr t b i j) => match nth s.hp b with
    | some (.row _ t' xs) => bif decide (t = t') then some ([i < xs.length], toCV t' (xs.getD i t'.dft), j) else none
    | some (.nest _ bx fs xs (some (q, hs))) => bif Nat.beq t.sz (nsz bx fs) then some ([i = q, i < xs.length], hs, j) else none
    | _ => none
  | .c (.eptr t xs i j) => some ([i < xs.length], toCV t (xs.getD i t.dft), j)
  | _ => none
theorem seg_get {l : List Value} {o n i : Nat} {v : Value} (h : (seg l o n)[i]? = some v) : l[o + i]? = some v := by
  unfold seg at h
  rw [List.getElem?_take] at h
  split at h
  · rwa [List.getElem?_drop] at h
  · cases h
/-- Where something is known of, the worlds are the same. -/
def Alike (π : Pers) (ρ : Env) (h : List HB) (w w' : World) : Prop := ∀ g, (π g ≠ none ∨ ∃ k it, h[k]? = some it ∧ it ≠ .gone ∧ own (ρ k) g) → w'.heap[g]? = w.heap[g]?
theorem Alike.refl (π : Pers) (ρ : Env) (h : List HB) (w : World) : Alike π ρ h w w := fun _ _ => rfl
/-- A pointer into what lasts. -/
def isEp : PV → Bool | .c (.eptr _ _ _ _) => true | _ => false
def pz (b : Bool) (π : Pers) : Pers := fun g => bif b then π g else none
theorem cellsAt_ok {π : Pers} {ρ : Env} {s : SS} {a : Act} {w : World} (S : Sat π ρ s a w) {x : PV} {v : Value} (hx : DenP π ρ x v) {ob : List Prop} {cs : List CV} {off : Nat} (h : cellsAt s x = some (ob, cs, off)) (ho : allP ob) :
    ∃ g o vs, v = .pointer (some ⟨g, o + off, none⟩) ∧ All2 (DenC π ρ) cs vs ∧ ∀ w', Alike (pz (isEp x) π) ρ s.hp w w' → ∀ i u, vs[i]? = some u → w'.cell? ⟨g, o + i, none⟩ = some u := by
  unfold cellsAt at h
  split at h
  · rename_i b off'
    split at h
    · rename_i t cs' hb
      cases h
      rw [nth_eq] at hb
      obtain ⟨g, vs, h1, h2, h3⟩ := S.hs.items b _ hb
      obtain ⟨g', o', n', h4, rfl⟩ := hx
      rw [h1] at h4
      cases h4
      refine ⟨g, 0, vs.toList, by simp, h3, fun w' hw i u hi => ?_⟩
      have h2' := (hw g (.inr ⟨b, _, hb, by simp, own_main h1⟩)).trans h2
      rw [cell_of_row w' g _ vs t (0, 0) h2', Nat.zero_add]
      simpa using hi
    · cases h
  · rename_i t b i j
    split at h
    · rename_i e t' xs hb
      cases hd : decide (t = t') with
      | false => rw [hd] at h; cases h
      | true =>
        rw [hd] at h
        cases h
        have := of_decide_eq_true hd
        subst this
        rw [nth_eq] at hb
        obtain ⟨g', o', n', h4, rfl⟩ := hx
        rcases S.hs.items b _ hb with ⟨h1, h2⟩ | ⟨g, o, vs, h1, h2, h3, h5, h6⟩
        · rw [h1] at h4; cases h4
        · rw [h1] at h4
          cases h4
          obtain ⟨hi, _⟩ := ho
          have hget : xs[i]? = some (xs.getD i t.dft) := by rw [List.getD_eq_getElem?_getD, List.getElem?_eq_getElem hi]; rfl
          have hr := h6 i _ hget
          refine ⟨g', o' + i * t.sz, _, by simp [Nat.add_assoc], toCV_ok t _ _ hr, fun w' hw k u hk => ?_⟩
          have := seg_get hk
          have h2' := (hw g' (.inr ⟨b, _, hb, by simp, own_main h1⟩)).trans h2
          rw [cell_of_row w' g' _ vs e (0, 0) h2']
          simpa using this
    · rename_i e bx fs xs q hs hb
      cases hd : Nat.beq t.sz (nsz bx fs) with
      | false => rw [hd] at h; cases h
      | true =>
        rw [hd] at h
        cases h
        have hsz : t.sz = nsz bx fs := Nat.eq_of_beq_eq_true hd
        rw [nth_eq] at hb
        obtain ⟨g', o', n', h4, rfl⟩ := hx
        rcases S.hs.items b _ hb with ⟨h1, _⟩ | ⟨g, o, vs, Ls, h1, h2, h3, h5, h6, h7, h8⟩
        · rw [h1] at h4; cases h4
        · rw [h1] at h4
          cases h4
          obtain ⟨hiq, hi, _⟩ := ho
          subst hiq
          have hLi : i < Ls.length := by omega
          rcases h8 i _ _ (List.getElem?_eq_getElem hi) (List.getElem?_eq_getElem hLi) with ⟨_, _, hh⟩ | ⟨hne, _⟩
          · refine ⟨g', o' + i * t.sz, _, by simp [Nat.add_assoc], hh, fun w' hw k u hk => ?_⟩
            have := seg_get hk
            have h2' := (hw g' (.inr ⟨b, _, hb, by simp, own_main h1⟩)).trans h2
            rw [cell_of_row w' g' _ vs e (0, 0) h2', hsz]
            simpa using this
          · exact absurd rfl hne
    · cases h
  · rename_i t xs i j
    cases h
    obtain ⟨g, o, vs, h1, h2, rfl⟩ := hx
    obtain ⟨hi, _⟩ := ho
    have hget : xs[i]? = some (xs.getD i t.dft) := by rw [List.getD_eq_getElem?_getD, List.getElem?_eq_getElem hi]; rfl
    obtain ⟨e, f, he⟩ := S.hs.pers.1 g vs h1
    refine ⟨g, o + i * t.sz, _, by simp [Nat.add_assoc], toCV_ok t _ _ (h2 i _ hget), fun w' hw k u hk => ?_⟩
    have := seg_get hk
    have he' := (hw g (.inl (by simp [pz, isEp, h1]))).trans he
    rw [cell_of_row w' g _ vs e f he']
    simpa using this
  · cases h

def loadC (P : Program) (s : SS) (t : TypeId) (x : PV) : PR :=
  match cellsAt s x with
  | some (ob, cs, off) => match isAggB P t with
    | some true => match szOf P t with
      | some n => bif Nat.ble (off + n) cs.length then some (ob, [], .agg (segC cs off n)) else none
      | none => none
    | some false => match nth cs off with
      | some c => some (ob, [], .c c)
      | none => none
    | none => none
  | none => none
theorem loadC_ok {P : Program} {π : Pers} {ρ : Env} {s : SS} {a : Act} {w : World} (S : Sat π ρ s a w) {t : TypeId} {x : PV} {v : Value} (hx : DenP π ρ x v) {ob fc : List Prop} {r : PV} (h : loadC P s t x = some (ob, fc, r)) (ho : allP ob) :
    allP fc ∧ ∃ u, (∀ w', Alike (pz (isEp x) π) ρ s.hp w w' → (Instr.loadAt t v).run P w' = .ok u w') ∧ DenP π ρ r u := by
  unfold loadC at h
  split at h
  · rename_i ob' cs off hc
    split at h
    · rename_i hb
      split at h
      · rename_i n hn
        cases hl : Nat.ble (off + n) cs.length with
        | false => rw [hl] at h; cases h
        | true =>
          rw [hl] at h
          cases h
          obtain ⟨g, o, vs, rfl, h2, h3⟩ := cellsAt_ok S hx hc ho
          have hle := Nat.le_of_ble_eq_true hl
          rw [all2_len h2] at hle
          refine ⟨trivial, .agg ((vs.drop off).take n).toArray, ?_, _, rfl, all2_take (all2_drop h2 off) n⟩
          intro w' hw
          have hlc := run_loadCells_list (P := P) w' ⟨g, o + off, none⟩ ((vs.drop off).take n) (fun j u hj => by
            rw [Addr.add_lit, Nat.add_assoc]
            exact h3 w' hw _ _ (seg_get (o := off) (n := n) hj))
          rw [show ((vs.drop off).take n).length = n by rw [List.length_take, List.length_drop]; omega] at hlc
          simp [Instr.loadAt, Instr.sureAddr, loadVar, run_isAgg hb, run_sizeOf hn, hlc]
      · cases h
    · rename_i hb
      split at h
      · rename_i c hcc
        cases h
        obtain ⟨g, o, vs, rfl, h2, h3⟩ := cellsAt_ok S hx hc ho
        rw [nth_eq] at hcc
        obtain ⟨u, hu, hd⟩ := all2_get h2 off c hcc
        refine ⟨trivial, u, ?_, hd⟩
        intro w' hw
        simp [Instr.loadAt, Instr.sureAddr, loadVar, run_isAgg hb, h3 w' hw _ _ hu]
      · cases h
    · cases h
  · cases h

def shiftC (k : Nat) : PV → Option PV
  | .c (.ptr b off) => some (.c (.ptr b (off + k)))
  | .c (.rptr t b i j) => some (.c (.rptr t b i (j + k)))
  | .c (.eptr t xs i j) => some (.c (.eptr t xs i (j + k)))
  | _ => none
theorem shiftC_ok {π : Pers} {ρ : Env} {k : Nat} {x r : PV} {v : Value} (hx : DenP π ρ x v) (h : shiftC k x = some r) : ∃ g o, v = .pointer (some ⟨g, o, none⟩) ∧ DenP π ρ r (.pointer (some ⟨g, o + k, none⟩)) := by
  unfold shiftC at h
  split at h
  · cases h; obtain ⟨g, o, n, h1, rfl⟩ := hx; exact ⟨g, _, rfl, g, o, n, h1, by rw [Nat.add_assoc]⟩
  · cases h; obtain ⟨g, o, n, h1, rfl⟩ := hx; exact ⟨g, _, rfl, g, o, n, h1, by rw [Nat.add_assoc]⟩
  · cases h; obtain ⟨g, o, vs, h1, h2, rfl⟩ := hx; exact ⟨g, _, rfl, g, o, vs, h1, h2, by rw [Nat.add_assoc]⟩
  · cases h
def fieldAddrC (P : Program) (t : TypeId) (f : Nat) (x : PV) : PR :=
  match P.underlying t with
  | some (.struct fs) => match fs[f]? with
    | some fd => match szOf P fd.type with
      | some (n + 1) => match shiftC fd.offset x with
        | some r => some ([], [], r)
        | none => none
      | _ => none
    | none => none
  | _ => none
theorem fieldAddrC_ok {P : Program} {π : Pers} {ρ : Env} {t : TypeId} {f : Nat} {x : PV} {v : Value} (hx : DenP π ρ x v) {ob fc : List Prop} {r : PV} (h : fieldAddrC P t f x = some (ob, fc, r)) :
    allP fc ∧ ∃ u, (∀ w : World, (Instr.fieldAt t v f).run P w = .ok u w) ∧ DenP π ρ r u := by
  unfold fieldAddrC at h
  split at h
  · rename_i fs hf
    split at h
    · rename_i fd hfd
      split at h
      · rename_i n hn
        split at h
        · rename_i r' hr
          cases h
          obtain ⟨g, o, rfl, hd⟩ := shiftC_ok hx hr
          refine ⟨trivial, _, ?_, hd⟩
          simp [Instr.fieldAt, run_underlying hf, hfd, Instr.sureAddr, fieldPlace, run_sizeOf hn, Addr.add_lit]
        · cases h
      · cases h
    · cases h
  · cases h
def fieldC (P : Program) (t : TypeId) (f : Nat) (x : PV) : PR :=
  match x with
  | .agg cs => match P.underlying t with
    | some (.struct fs) => match fs[f]? with
      | some fd => match partC P fd.type cs fd.offset with
        | some r => some ([], [], r)
        | none => none
      | none => none
    | _ => none
  | _ => none
theorem fieldC_ok {P : Program} {π : Pers} {ρ : Env} {t : TypeId} {f : Nat} {x : PV} {v : Value} (hx : DenP π ρ x v) {ob fc : List Prop} {r : PV} (h : fieldC P t f x = some (ob, fc, r)) :
    allP fc ∧ ∃ u, (∀ w : World, (Instr.field t v f).run P w = .ok u w) ∧ DenP π ρ r u := by
  unfold fieldC at h
  split at h
  · rename_i cs
    split at h
    · rename_i fs hf
      split at h
      · rename_i fd hfd
        split at h
        · rename_i r' hr
          cases h
          obtain ⟨vs, rfl, hvs⟩ := hx
          obtain ⟨u, hu, hd⟩ := partC_ok hvs hr
          refine ⟨trivial, u, ?_, hd⟩
          simp [Instr.field, run_underlying hf, hfd, asAgg, hu]
        · cases h
      · cases h
    · cases h
  · cases h

def bt (s : ByteArray) (i : Int) : Int := if h : i.toNat < s.size then ((s[i.toNat]'h).toNat : Int) else 0
/-- The address of an element. -/
def indexAddrC (P : Program) (t : TypeId) (x ix : PV) : PR :=
  match P.underlying t, ix with
  | some (.slice e), .c (.int k i) => match x with
    | .c (.row ty xs) => match szOf P e with
      | some n => bif Nat.beq n ty.sz then some ([0 ≤ i, i < xs.length], [], .c (.eptr ty xs i.toNat 0)) else none
      | none => none
    | .c (.view ty b a m) => match szOf P e with
      | some n => bif Nat.beq n ty.sz then some ([0 ≤ i, i < (m : Int)], [], .c (.rptr ty b (a + i.toNat) 0)) else none
      | none => none
    | _ => none
  | some (.array len e), .c (.int k i) => match x with
    | .c (.rptr ty b a 0) => match szOf P e with
      | some n => bif Nat.beq n ty.sz then some ([0 ≤ i, i < (len : Int)], [], .c (.rptr ty b (a + i.toNat) 0)) else none
      | none => none
    | .c (.ptr b off) => match szOf P e with
      | some n => some ([0 ≤ i, i < (len : Int)], [], .c (.ptr b (off + i.toNat * n)))
      | none => none
    | _ => none
  | _, _ => none
theorem beq_eq {a b : Nat} (h : Nat.beq a b = true) : a = b := Nat.eq_of_beq_eq_true h
theorem indexAddrC_ok {P : Program} {π : Pers} {ρ : Env} {t : TypeId} {x ix : PV} {v vi : Value} (hx : DenP π ρ x v) (hi : DenP π ρ ix vi) {ob fc : List Prop} {r : PV} (h : indexAddrC P t x ix = some (ob, fc, r)) (ho : allP ob) :
    allP fc ∧ ∃ u, (∀ w : World, (Instr.indexAt t v vi).run P w = .ok u w) ∧ DenP π ρ r u := by
  unfold indexAddrC at h
  split at h
  · rename_i e k i hu
    simp only [DenP, DenC] at hi
    subst hi
    split at h
    · rename_i ty xs
      split at h
      · rename_i n hn
        cases hb : Nat.beq n ty.sz with
        | false => rw [hb] at h; cases h
        | true =>
          rw [hb] at h
          cases h
          have := beq_eq hb
          subst this
          obtain ⟨h0, h1, _⟩ := ho
          obtain ⟨A, c, rfl, h2, h3, h4⟩ := hx
          rcases h4 with rfl | ⟨g, o, vs, rfl, h5, h6⟩
          · simp at h1; omega
          · refine ⟨trivial, _, ?_, g, o, vs, h5, h6, rfl⟩
            simp [Instr.indexAt, asIntOf, run_underlying hu, h0, h1, run_sizeOf hn, Addr.add_lit]
      · cases h
    · rename_i ty b a m
      split at h
      · rename_i n hn
        cases hb : Nat.beq n ty.sz with
        | false => rw [hb] at h; cases h
        | true =>
          rw [hb] at h
          cases h
          have := beq_eq hb
          subst this
          obtain ⟨h0, h1, _⟩ := ho
          rcases hx with ⟨rfl, A, rfl⟩ | ⟨g, o, m', c, h2, h3, h4, h5, rfl⟩
          · simp at h1; omega
          · refine ⟨trivial, _, ?_, g, o, m', h2, rfl⟩
            simp [Instr.indexAt, asIntOf, run_underlying hu, h0, h1, run_sizeOf hn, Addr.add_lit, Nat.add_mul, Nat.add_assoc]
      · cases h
    · cases h
  · rename_i len e k i hu
    simp only [DenP, DenC] at hi
    subst hi
    split at h
    · rename_i ty b a
      split at h
      · rename_i n hn
        cases hb : Nat.beq n ty.sz with
        | false => rw [hb] at h; cases h
        | true =>
          rw [hb] at h
          cases h
          have := beq_eq hb
          subst this
          obtain ⟨h0, h1, _⟩ := ho
          obtain ⟨g, o, m', h2, rfl⟩ := hx
          refine ⟨trivial, _, ?_, g, o, m', h2, rfl⟩
          simp [Instr.indexAt, asIntOf, run_underlying hu, h0, h1, run_sizeOf hn, Addr.add_lit, Nat.add_mul, Nat.add_assoc, Instr.sureAddr]
      · cases h
    · rename_i b off
      split at h
      · rename_i n hn
        cases h
        obtain ⟨h0, h1, _⟩ := ho
        obtain ⟨g, o, m', h2, rfl⟩ := hx
        refine ⟨trivial, _, ?_, g, o, m', h2, rfl⟩
        simp [Instr.indexAt, asIntOf, run_underlying hu, h0, h1, run_sizeOf hn, Addr.add_lit, Nat.add_assoc, Instr.sureAddr]
      · cases h
    · cases h
  · cases h
/-- Cells that all hold texts, numbers. -/
def strsOf : List CV → Option (List ByteArray)
  | [] => some []
  | .str x :: r => match strsOf r with | some l => some (x :: l) | none => none
  | _ => none
theorem strsOf_ok {π : Pers} {ρ : Env} : ∀ {cs : List CV} {l : List ByteArray} {vs : List Value}, strsOf cs = some l → All2 (DenC π ρ) cs vs → All2 (fun x v => v = .string x ∧ x.size ≤ maxI) l vs
  | [], l, [], h, _ => by simp only [strsOf, Option.some.injEq] at h; subst h; trivial
  | c :: r, l, v :: vs, h, ⟨h1, h2⟩ => by
    cases c <;> simp only [strsOf, reduceCtorEq] at h
    split at h
    · rename_i l' hl
      cases h
      exact ⟨h1, strsOf_ok hl h2⟩
    · cases h
  | [], _, _ :: _, _, h => h.elim
  | _ :: _, _, [], _, h => h.elim
def intsOf (k : IntKind) : List CV → Option (List Int)
  | [] => some []
  | .int k' x :: r => bif decide (k' = k) then (match intsOf k r with | some l => some (x :: l) | none => none) else none
  | _ => none
theorem intsOf_ok {π : Pers} {ρ : Env} {k : IntKind} : ∀ {cs : List CV} {l : List Int} {vs : List Value}, intsOf k cs = some l → All2 (DenC π ρ) cs vs → All2 (fun x v => v = .int k x) l vs
  | [], l, [], h, _ => by simp only [intsOf, Option.some.injEq] at h; subst h; trivial
  | c :: r, l, v :: vs, h, ⟨h1, h2⟩ => by
    cases c <;> simp only [intsOf, reduceCtorEq] at h
    rename_i k' n
    cases hd : decide (k' = k) with
    | false => rw [hd] at h; cases h
    | true =>
      rw [hd] at h
      have := of_decide_eq_true hd
      subst this
      simp only [cond_true] at h
      split at h
      · rename_i l' hl
        cases h
        exact ⟨h1, intsOf_ok hl h2⟩
      · cases h
  | [], _, _ :: _, _, h => h.elim
  | _ :: _, _, [], _, h => h.elim
def kindOf (P : Program) (t : TypeId) : Option IntKind := match P.underlying t with | some (.int k) => some k | _ => none
def indexC (P : Program) (t : TypeId) (x ix : PV) : PR :=
  match x, ix with
  | .c (.str s), .c (.int k i) => bif isSt P t then some ([0 ≤ i, i < s.size], [], .c (.int .u8 (bt s i))) else none
  | .agg cs, .c (.int k i) => match P.underlying t with
    | some (.array len e) => match isAggB P e, szOf P e, kindOf P e with
      | some false, some 1, none => match strsOf cs with
        | some l => some ([0 ≤ i, i < len, i < l.length], [], .c (.str (l.getD i.toNat ByteArray.empty)))
        | none => none
      | some false, some 1, some kd => match intsOf kd cs with
        | some l => some ([0 ≤ i, i < len, i < l.length], [], .c (.int kd (l.getD i.toNat 0)))
        | none => none
      | _, _, _ => none
    | _ => none
  | _, _ => none
theorem all2_getD {α β : Type} {R : α → β → Prop} {l : List α} {m : List β} (h : All2 R l m) {i : Nat} (hi : i < l.length) (d : α) : ∃ b, m[i]? = some b ∧ R (l.getD i d) b := by
  have e : l.getD i d = l[i] := by rw [List.getD_eq_getElem?_getD, List.getElem?_eq_getElem hi]; rfl
  rw [e]
  exact all2_get h i _ (List.getElem?_eq_getElem hi)
theorem indexC_ok {P : Program} {π : Pers} {ρ : Env} {t : TypeId} {x ix : PV} {v vi : Value} (hx : DenP π ρ x v) (hi : DenP π ρ ix vi) {ob fc : List Prop} {r : PV} (h : indexC P t x ix = some (ob, fc, r)) (ho : allP ob) :
    allP fc ∧ ∃ u, (∀ w : World, (Instr.index t v vi).run P w = .ok u w) ∧ DenP π ρ r u := by
  unfold indexC at h
  split at h
  · rename_i s k i
    cases hb : isSt P t with
    | false => rw [hb] at h; cases h
    | true =>
      rw [hb] at h
      cases h
      simp only [isSt] at hb
      split at hb
      · rename_i hu
        obtain ⟨h0, h1, _⟩ := ho
        obtain ⟨rfl, _⟩ := hx
        simp only [DenP, DenC] at hi
        subst hi
        refine ⟨trivial, _, ?_, rfl⟩
        have h2 : i.toNat < s.size := by omega
        simp [Instr.index, asIntOf, run_underlying hu, h0, bt, h2]
      · cases hb
  · rename_i cs k i
    simp only [DenP, DenC] at hi
    subst hi
    obtain ⟨vs, rfl, hvs⟩ := hx
    split at h
    · rename_i len e hu
      split at h
      · rename_i ha hz hk
        split at h
        · rename_i l hl
          cases h
          obtain ⟨h0, h1, h2, _⟩ := ho
          obtain ⟨v, hv, rfl, hs⟩ := all2_getD (strsOf_ok hl hvs) (i := i.toNat) (by omega) ByteArray.empty
          refine ⟨trivial, _, ?_, rfl, hs⟩
          simp [Instr.index, asIntOf, run_underlying hu, h0, h1, run_sizeOf hz, part, run_isAgg ha, hv]
        · cases h
      · rename_i kd ha hz hk
        split at h
        · rename_i l hl
          cases h
          obtain ⟨h0, h1, h2, _⟩ := ho
          obtain ⟨v, hv, rfl⟩ := all2_getD (intsOf_ok hl hvs) (i := i.toNat) (by omega) 0
          refine ⟨trivial, _, ?_, rfl⟩
          simp [Instr.index, asIntOf, run_underlying hu, h0, h1, run_sizeOf hz, part, run_isAgg ha, hv]
        · cases h
      · cases h
    · cases h
  · cases h
def nilC : PV → Option PV
  | .c (.ptr b o) => some (.c (.ptr b o))
  | .c (.rptr t b i j) => some (.c (.rptr t b i j))
  | .c (.eptr t xs i j) => some (.c (.eptr t xs i j))
  | .c (.func f) => some (.c (.func f))
  | .clo f l => some (.clo f l)
  | _ => none
end Go.Proofs.Ytckijackbldkhaa.Sx
namespace Go.Proofs.Ytckijackbldkhaa.Sx
open Go
set_option linter.unusedVariables false
set_option linter.unusedSimpArgs false

def intOp (op : BinOp) (k : IntKind) (a b : Int) : Option (List Prop × CV) :=
  match op with
  | .add => some ([], .int k (k.wrap (a + b)))
  | .sub => some ([], .int k (k.wrap (a - b)))
  | .mul => some ([], .int k (k.wrap (a * b)))
  | .quo => some ([b ≠ 0], .int k (k.wrap (a.tdiv b)))
  | .rem => some ([b ≠ 0], .int k (a.tmod b))
  | .and => some ([], .int k (Go.bits .and k a b))
  | .or => some ([], .int k (Go.bits .or k a b))
  | .xor => some ([], .int k (Go.bits .xor k a b))
  | .andNot => some ([], .int k (Go.bits .andNot k a b))
  | .eql => some ([], .bool (a == b))
  | .neq => some ([], .bool (a != b))
  | .lss => some ([], .bool (decide (a < b)))
  | .leq => some ([], .bool (decide (a ≤ b)))
  | .gtr => some ([], .bool (decide (a > b)))
  | .geq => some ([], .bool (decide (a ≥ b)))
  | .shl => none
  | .shr => none
def shOp (op : BinOp) (k : IntKind) (a b : Int) : Option (List Prop × CV) :=
  match op with
  | .shl => some ([0 ≤ b], .int k (k.wrap (a * 2 ^ (min b.toNat k.bits))))
  | .shr => some ([0 ≤ b], .int k (a.fdiv (2 ^ (min b.toNat k.bits))))
  | _ => none
def strOp (op : BinOp) (a b : ByteArray) : Option (List Prop × CV) :=
  match op with
  | .add => some ([a.size + b.size ≤ maxI], .str (a ++ b))
  | .eql => some ([], .bool (strEq a b))
  | .neq => some ([], .bool (!strEq a b))
  | .lss => some ([], .bool (strLt a b))
  | .leq => some ([], .bool (strLt a b || strEq a b))
  | .gtr => some ([], .bool (!(strLt a b || strEq a b)))
  | .geq => some ([], .bool (!strLt a b))
  | _ => none
def isSh : BinOp → Bool | .shl => true | .shr => true | _ => false
/-- '==' and '!=' of whatever is no number and no string. -/
def eqOp (P : Program) (op : BinOp) (t : TypeId) (x y : PV) : PR :=
  match op, eqV P 9 t x y with
  | .eql, some r => some ([], [], .c (.bool r))
  | .neq, some r => some ([], [], .c (.bool (!r)))
  | _, _ => none
def lift (o : Option (List Prop × CV)) : PR := match o with | some (ob, c) => some (ob, [], .c c) | none => none
def binP (P : Program) (op : BinOp) (t : TypeId) (x y : PV) : PR :=
  match x, y with
  | .c (.int k a), .c (.int k' b) => bif isSh op then lift (shOp op k a b) else bif decide (k = k') then lift (intOp op k a b) else none
  | .c (.str a), .c (.str b) => lift (strOp op a b)
  | .c (.bool a), .c (.bool b) => eqOp P op t x y
  | .c .nilp, .c _ => eqOp P op t x y
  | .c (.ptr _ _), .c .nilp => eqOp P op t x y
  | .c (.rptr _ _ _ _), .c .nilp => eqOp P op t x y
  | .c (.eptr _ _ _ _), .c .nilp => eqOp P op t x y
  | .c .nils, .c .nils => eqOp P op t x y
  | .agg _, .agg _ => bif P.eqGuardType P.depth t then none else eqOp P op t x y
  | _, _ => none
theorem run_eqGuard_c {P : Program} (op : BinOp) (t : TypeId) (x y : Operand) (u v : Value) (w : World) (h : ∀ a b, ¬ (u = .agg a ∧ v = .agg b)) (h' : ¬ (u = .nilIface ∧ v = .nilIface)) : (eqGuard op t x y u v).run P w = .ok () w := by
  unfold eqGuard
  by_cases hop : (!(op matches .eql | .neq)) = true
  · cases op <;> first | rfl | simp at hop
  · cases u <;> cases v <;> first | (exact absurd ⟨rfl, rfl⟩ (h _ _)) | (exact absurd ⟨rfl, rfl⟩ h') | (cases op <;> rfl)
theorem eqOp_ok {P : Program} {π : Pers} {ρ : Env} {op : BinOp} {t : TypeId} {x y : PV} {u v : Value} (hx : DenP π ρ x u) (hy : DenP π ρ y v) {ob fc : List Prop} {r : PV} (h : eqOp P op t x y = some (ob, fc, r)) (hb : op = .eql → binOp .eql t u v = (do pure (.bool (← Op.equal t u v)))) (hb' : op = .neq → binOp .neq t u v = (do pure (.bool (!(← Op.equal t u v))))) :
    allP fc ∧ ∃ z, (∀ w : World, (binOp op t u v).run P w = .ok z w) ∧ DenP π ρ r z := by
  unfold eqOp at h
  split at h
  · rename_i r' hr
    cases h
    have he := fun w => eqV_ok (P := P) w 9 9991 t _ _ _ _ _ hx hy hr
    refine ⟨trivial, .bool r', ?_, rfl⟩
    rw [hb rfl]
    intro w
    simp only [Op.equal, Op.maxDepth, Sem.run_bind]
    rw [show (10000 : Nat) = 9 + 9991 from rfl, he]
    rfl
  · rename_i r' hr
    cases h
    have he := fun w => eqV_ok (P := P) w 9 9991 t _ _ _ _ _ hx hy hr
    refine ⟨trivial, .bool (!r'), ?_, rfl⟩
    rw [hb' rfl]
    intro w
    simp only [Op.equal, Op.maxDepth, Sem.run_bind]
    rw [show (10000 : Nat) = 9 + 9991 from rfl, he]
    rfl
  · cases h
theorem binP_ok {P : Program} {π : Pers} {ρ : Env} {op : BinOp} {t : TypeId} {x y : PV} {u v : Value} (hx : DenP π ρ x u) (hy : DenP π ρ y v) {ob fc : List Prop} {r : PV} (h : binP P op t x y = some (ob, fc, r)) (ho : allP ob) (ox oy : Operand) :
    allP fc ∧ ∃ z, (∀ w : World, (do eqGuard op t ox oy u v; binOp op t u v : Sem Value).run P w = .ok z w) ∧ DenP π ρ r z := by
  unfold binP at h
  split at h
  · rename_i k a k' b
    simp only [DenP, DenC] at hx hy
    subst hx hy
    simp only [Sem.run_bind, (fun w => run_eqGuard_c (P := P) op t ox oy (.int k a) (.int k' b) w (by simp) (by simp)), Result.andThen_ok]
    cases hs : isSh op with
    | true =>
      rw [hs] at h
      cases op <;> simp [isSh] at hs <;> simp only [cond_true, shOp, lift, Option.some.injEq, Prod.mk.injEq] at h <;> obtain ⟨rfl, rfl, rfl⟩ := h <;>
      · have h0 : ¬ b < 0 := by have := ho.1; omega
        refine ⟨trivial, _, ?_, rfl⟩
        simp [binOp, Op.shift, h0]
    | false =>
      rw [hs] at h
      cases hk : decide (k = k') with
      | false => rw [hk] at h; cases h
      | true =>
        rw [hk] at h
        have := of_decide_eq_true hk
        subst this
        cases op <;> simp [isSh] at hs <;> simp only [cond_true, cond_false, intOp, lift, Option.some.injEq, Prod.mk.injEq] at h <;> obtain ⟨rfl, rfl, rfl⟩ := h <;>
        refine ⟨trivial, _, ?_, rfl⟩ <;> first | exact fun _ => rfl | (have h0 : b ≠ 0 := ho.1; simp [binOp, Op.intDiv, h0]; done) | (simp [binOp, Op.intArith, Op.intCmp, intBits_and, intBits_or, intBits_xor, intBits_andNot]; done)
  · rename_i a b
    obtain ⟨hx, hxs⟩ := hx
    obtain ⟨hy, hys⟩ := hy
    subst hx hy
    simp only [Sem.run_bind, (fun w => run_eqGuard_c (P := P) op t ox oy (.string a) (.string b) w (by simp) (by simp)), Result.andThen_ok]
    cases op <;> simp only [strOp, lift, Option.some.injEq, Prod.mk.injEq, reduceCtorEq] at h <;> obtain ⟨rfl, rfl, rfl⟩ := h
    · have h0 : a.size + b.size ≤ maxI := ho.1
      have h1 : ¬ (((a.size + b.size : Nat) : Int) > IntKind.i64.max) := by
        have : IntKind.i64.max = 9223372036854775807 := rfl
        rw [this]; simp only [maxI] at h0; omega
      refine ⟨trivial, .string (a ++ b), ?_, rfl, ?_⟩
      · intro w; simp only [binOp, Op.stringOp, if_neg h1]; rfl
      · rw [ByteArray.size_append]; exact h0
    all_goals exact ⟨trivial, _, fun _ => rfl, rfl⟩
  · rename_i a b
    have hx' := hx
    have hy' := hy
    simp only [DenP, DenC] at hx' hy'
    subst hx' hy'
    simp only [Sem.run_bind, (fun w => run_eqGuard_c (P := P) op t ox oy (.bool a) (.bool b) w (by simp) (by simp)), Result.andThen_ok]
    exact eqOp_ok hx hy h (fun _ => rfl) (fun _ => rfl)
  · rename_i c
    have hx' := hx
    simp only [DenP, DenC] at hx'
    subst hx'
    have hg : ∀ w : World, (eqGuard op t ox oy (.pointer none) v).run P w = .ok () w := fun w => run_eqGuard_c op t ox oy _ v w (by simp) (by simp)
    simp only [Sem.run_bind, hg, Result.andThen_ok]
    have hsh : ∃ z, v = .pointer z := by
      unfold eqOp at h
      cases c <;> simp [eqV, eqC] at h <;> first
        | (obtain ⟨g, o, n, _, rfl⟩ := hy; exact ⟨_, rfl⟩)
        | (obtain ⟨g, o, n, _, _, rfl⟩ := hy; exact ⟨_, rfl⟩)
        | (simp only [DenP, DenC] at hy; subst hy; exact ⟨_, rfl⟩)
        | (exfalso; revert h; cases op <;> simp; done)
    obtain ⟨z, rfl⟩ := hsh
    exact eqOp_ok hx hy h (fun _ => rfl) (fun _ => rfl)
  · rename_i b o
    have hy' := hy
    simp only [DenP, DenC] at hy'
    subst hy'
    obtain ⟨g, p, n, hr, rfl⟩ := id hx
    simp only [Sem.run_bind, (fun (z : Value) (w : World) => run_eqGuard_c (P := P) op t ox oy z (.pointer none) w (by simp) (by simp)), Result.andThen_ok]
    exact eqOp_ok hx hy h (fun _ => rfl) (fun _ => rfl)
  · have hy' := hy
    simp only [DenP, DenC] at hy'
    subst hy'
    obtain ⟨g, p, n, hr, rfl⟩ := id hx
    simp only [Sem.run_bind, (fun (z : Value) (w : World) => run_eqGuard_c (P := P) op t ox oy z (.pointer none) w (by simp) (by simp)), Result.andThen_ok]
    exact eqOp_ok hx hy h (fun _ => rfl) (fun _ => rfl)
  · have hy' := hy
    simp only [DenP, DenC] at hy'
    subst hy'
    obtain ⟨g, p, n, hr, hr2, rfl⟩ := id hx
    simp only [Sem.run_bind, (fun (z : Value) (w : World) => run_eqGuard_c (P := P) op t ox oy z (.pointer none) w (by simp) (by simp)), Result.andThen_ok]
    exact eqOp_ok hx hy h (fun _ => rfl) (fun _ => rfl)
  · have hx' := hx
    have hy' := hy
    simp only [DenP, DenC] at hx' hy'
    subst hx' hy'
    simp only [Sem.run_bind, (fun w => run_eqGuard_c (P := P) op t ox oy (.slice none 0 0) (.slice none 0 0) w (by simp) (by simp)), Result.andThen_ok]
    exact eqOp_ok hx hy h (fun _ => rfl) (fun _ => rfl)
  · rename_i xs ys
    cases hq : P.eqGuardType P.depth t with
    | true => rw [hq] at h; cases h
    | false =>
      rw [hq] at h
      obtain ⟨us, rfl, hu⟩ := id hx
      obtain ⟨vs, rfl, hv⟩ := id hy
      simp only [Sem.run_bind, (fun x y w => run_eqGuard_agg (P := P) w op t ox oy x y hq), Result.andThen_ok]
      exact eqOp_ok hx hy h (fun _ => rfl) (fun _ => rfl)
  · cases h

def unP (op : UnOp) (x : PV) : PR :=
  match op, x with
  | .not, .c (.bool b) => some ([], [], .c (.bool !b))
  | .neg, .c (.int k n) => some ([], [], .c (.int k (k.wrap (0 - n))))
  | .xor, .c (.int k n) => some ([], [], .c (.int k (Go.bits .xor k (if k.signed then -1 else k.max) n)))
  | _, _ => none
theorem unP_ok {P : Program} {π : Pers} {ρ : Env} {op : UnOp} {x : PV} {u : Value} (hx : DenP π ρ x u) {ob fc : List Prop} {r : PV} (h : unP op x = some (ob, fc, r)) : allP fc ∧ ∃ z, (∀ w : World, (Op.unary op u).run P w = .ok z w) ∧ DenP π ρ r z := by
  unfold unP at h
  split at h
  · cases h; simp only [DenP, DenC] at hx; subst hx; exact ⟨trivial, _, fun _ => rfl, rfl⟩
  · cases h; simp only [DenP, DenC] at hx; subst hx; exact ⟨trivial, _, fun _ => rfl, rfl⟩
  · cases h; simp only [DenP, DenC] at hx; subst hx; exact ⟨trivial, _, fun _ => rfl, rfl⟩
  · cases h

def convP (P : Program) (src dst : TypeId) (x : PV) : PR :=
  match x with
  | .c (.int k n) => match P.underlying src, kindOf P dst with
    | some _, some k' => some ([], [], .c (.int k' (k'.wrap n)))
    | _, _ => none
  | .c (.str s) => bif isSt P src && isSt P dst then some ([], [], .c (.str s)) else none
  | _ => none
theorem convP_ok {P : Program} {π : Pers} {ρ : Env} {src dst : TypeId} {x : PV} {u : Value} (hx : DenP π ρ x u) {ob fc : List Prop} {r : PV} (h : convP P src dst x = some (ob, fc, r)) : allP fc ∧ ∃ z, (∀ w : World, (convert src dst u).run P w = .ok z w) ∧ DenP π ρ r z := by
  unfold convP at h
  split at h
  · rename_i k n
    split at h
    · rename_i d k' hs hd
      cases h
      simp only [DenP, DenC] at hx
      subst hx
      simp only [kindOf] at hd
      split at hd
      · rename_i k'' hk
        cases hd
        refine ⟨trivial, .int k' (k'.wrap n), ?_, rfl⟩
        simp [convert, run_underlying hs, run_underlying hk, Conv.intToInt]
      · cases hd
    · cases h
  · rename_i s
    cases hb : (isSt P src && isSt P dst) with
    | false => rw [hb] at h; cases h
    | true =>
      rw [hb] at h
      cases h
      obtain ⟨rfl, hsz⟩ := hx
      simp only [Bool.and_eq_true, isSt] at hb
      obtain ⟨h1, h2⟩ := hb
      split at h1
      · rename_i hs
        split at h2
        · rename_i hd
          refine ⟨trivial, .string s, ?_, rfl, hsz⟩
          simp [convert, run_underlying hs, run_underlying hd]
        · cases h2
      · cases h1
  · cases h

def lenP (P : Program) (t : TypeId) (x : PV) : PR :=
  match x with
  | .c (.row _ xs) => bif isSl P t then some ([], [xs.length ≤ maxI], .c (.int .i64 xs.length)) else none
  | .c (.view _ _ _ n) => bif isSl P t then some ([], [n ≤ maxI], .c (.int .i64 n)) else none
  | .c .nils => bif isSl P t then some ([], [], .c (.int .i64 0)) else none
  | .c (.str s) => bif isSt P t then some ([], [s.size ≤ maxI], .c (.int .i64 s.size)) else none
  | _ => none
theorem lenP_ok {P : Program} {π : Pers} {ρ : Env} {t ty : TypeId} {x : PV} {u : Value} (hx : DenP π ρ x u) {ob fc : List Prop} {r : PV} (h : lenP P t x = some (ob, fc, r)) : allP fc ∧ ∃ z, (∀ w : World, (Builtin.len_ #[t] ty #[u]).run P w = .ok z w) ∧ DenP π ρ r z := by
  unfold lenP at h
  split at h
  · rename_i ty' xs
    cases hb : isSl P t with
    | false => rw [hb] at h; cases h
    | true =>
      rw [hb] at h
      cases h
      simp only [isSl] at hb
      split at hb
      · rename_i hu
        obtain ⟨A, c, rfl, h2, h3, h4⟩ := hx
        refine ⟨⟨by simp only [maxI, maxLen] at *; omega, trivial⟩, .int .i64 xs.length, ?_, rfl⟩
        simp [Builtin.len_, run_underlying hu, goInt]
      · cases hb
  · rename_i ty' b a n
    cases hb : isSl P t with
    | false => rw [hb] at h; cases h
    | true =>
      rw [hb] at h
      cases h
      simp only [isSl] at hb
      split at hb
      · rename_i hu
        rcases hx with ⟨rfl, A, rfl⟩ | ⟨g, o, m, c, h2, h3, h4, h5, rfl⟩
        · refine ⟨⟨by simp, trivial⟩, .int .i64 0, ?_, rfl⟩
          simp [Builtin.len_, run_underlying hu, goInt]
        · refine ⟨⟨by simp only [maxI, maxLen] at *; omega, trivial⟩, .int .i64 n, ?_, rfl⟩
          simp [Builtin.len_, run_underlying hu, goInt]
      · cases hb
  · cases hb : isSl P t with
    | false => rw [hb] at h; cases h
    | true =>
      rw [hb] at h
      cases h
      simp only [isSl] at hb
      split at hb
      · rename_i hu
        simp only [DenP, DenC] at hx
        subst hx
        refine ⟨trivial, .int .i64 0, ?_, rfl⟩
        simp [Builtin.len_, run_underlying hu, goInt]
      · cases hb
  · rename_i s
    cases hb : isSt P t with
    | false => rw [hb] at h; cases h
    | true =>
      rw [hb] at h
      cases h
      simp only [isSt] at hb
      split at hb
      · rename_i hu
        obtain ⟨rfl, hs⟩ := hx
        refine ⟨⟨hs, trivial⟩, .int .i64 s.size, ?_, rfl⟩
        simp [Builtin.len_, run_underlying hu, goInt]
      · cases hb
  · cases h
end Go.Proofs.Ytckijackbldkhaa.Sx
namespace Go.Proofs.Ytckijackbldkhaa.Sx
open Go
set_option linter.unusedVariables false
set_option linter.unusedSimpArgs false

def bd : Option PV → Option (Option Int)
  | none => some none
  | some (.c (.int _ i)) => some (some i)
  | _ => none
def bdOb (len : Nat) : Option Int → Option Int → List Prop
  | none, none => []
  | some l, none => [0 ≤ l, l ≤ (len : Int)]
  | none, some h => [0 ≤ h, h ≤ (len : Int)]
  | some l, some h => [0 ≤ l, l ≤ h, h ≤ (len : Int)]
def cutL {α : Type} (xs : List α) : Option Int → Option Int → List α
  | none, none => xs
  | some l, none => xs.drop l.toNat
  | none, some h => xs.take h.toNat
  | some l, some h => (xs.take h.toNat).drop l.toNat
def loN : Option Int → Nat | none => 0 | some l => l.toNat
def hiN (len : Nat) : Option Int → Nat | none => len | some h => h.toNat
def sliceP (P : Program) (t : TypeId) (x : PV) (lo hi : Option PV) : PR :=
  match bd lo, bd hi with
  | some l, some h => match P.underlying t with
    | some .string => match x with
      | .c (.str s) => some (bdOb s.size l h, [], .c (.str (s.extract (loN l) (hiN s.size h))))
      | _ => none
    | some (.slice e) => match szOf P e with
      | some n => match x with
        | .c (.row ty xs) => bif Nat.beq n ty.sz then some (bdOb xs.length l h, [], .c (.row ty (cutL xs l h))) else none
        | .c (.view ty b a m) => bif Nat.beq n ty.sz then some (bdOb m l h, [], .c (.view ty b (a + loN l) (hiN m h - loN l))) else none
        | .c .nils => some (bdOb 0 l h, [], .c .nils)
        | _ => none
      | none => none
    | _ => none
  | _, _ => none
theorem cutL_eq {α : Type} (xs : List α) (l h : Option Int) : cutL xs l h = (xs.take (hiN xs.length h)).drop (loN l) := by
  cases l <;> cases h <;> simp [cutL, hiN, loN]
theorem bd_run {P : Program} {π : Pers} {ρ : Env} {len cap : Nat} (hlc : len ≤ cap) {lo hi : Option PV} {vlo vhi : Option Value} (h1 : ∀ p, lo = some p → ∃ v, vlo = some v ∧ DenP π ρ p v) (h2 : lo = none → vlo = none) (h3 : ∀ p, hi = some p → ∃ v, vhi = some v ∧ DenP π ρ p v) (h4 : hi = none → vhi = none)
    {l h : Option Int} (hl : bd lo = some l) (hh : bd hi = some h) (ho : allP (bdOb len l h)) (b : Bool) :
    (∀ w : World, (Instr.sliceBounds b len cap vlo vhi none).run P w = .ok (loN l, hiN len h, cap) w) ∧ loN l ≤ hiN len h ∧ hiN len h ≤ len := by
  cases lo with
  | none =>
    simp only [bd, Option.some.injEq] at hl
    subst hl
    have hv := h2 rfl
    subst hv
    cases hi with
    | none =>
      simp only [bd, Option.some.injEq] at hh
      subst hh
      have hv := h4 rfl
      subst hv
      refine ⟨by simp [Instr.sliceBounds, loN, hiN], by simp [loN], by simp [hiN]⟩
    | some q =>
      obtain ⟨vq, rfl, hq⟩ := h3 q rfl
      unfold bd at hh
      split at hh
      · rename_i e; cases e
      · rename_i k i e
        cases e
        cases hh
        simp only [DenP, DenC] at hq
        subst hq
        obtain ⟨o1, o2, _⟩ := ho
        have o3 : i ≤ (cap : Int) := by omega
        refine ⟨by cases b <;> simp [Instr.sliceBounds, Instr.sliceBound, asIntOf, loN, hiN, o1, o3], by simp [loN], by simp [hiN]; omega⟩
      · cases hh
  | some p =>
    obtain ⟨vp, rfl, hp⟩ := h1 p rfl
    unfold bd at hl
    split at hl
    · rename_i e; cases e
    · rename_i k j e
      cases e
      cases hl
      simp only [DenP, DenC] at hp
      subst hp
      cases hi with
      | none =>
        simp only [bd, Option.some.injEq] at hh
        subst hh
        have hv := h4 rfl
        subst hv
        obtain ⟨o1, o2, _⟩ := ho
        refine ⟨by cases b <;> simp [Instr.sliceBounds, Instr.sliceBound, asIntOf, loN, hiN, o1, o2], by simp [loN, hiN]; omega, by simp [hiN]⟩
      | some q =>
        obtain ⟨vq, rfl, hq⟩ := h3 q rfl
        unfold bd at hh
        split at hh
        · rename_i e; cases e
        · rename_i k' i e
          cases e
          cases hh
          simp only [DenP, DenC] at hq
          subst hq
          obtain ⟨o1, o2, o4, _⟩ := ho
          have o3 : i ≤ (cap : Int) := by omega
          have o5 : 0 ≤ i := by omega
          have o6 : j ≤ max i 0 := by omega
          refine ⟨by cases b <;> simp [Instr.sliceBounds, Instr.sliceBound, asIntOf, loN, hiN, o1, o3, o5, o6], by simp [loN, hiN]; omega, by simp [hiN]; omega⟩
        · cases hh
    · cases hl
theorem sliceP_ok {P : Program} {π : Pers} {ρ : Env} {t : TypeId} {x : PV} {v : Value} {lo hi : Option PV} {vlo vhi : Option Value} (hx : DenP π ρ x v) (h1 : ∀ p, lo = some p → ∃ v, vlo = some v ∧ DenP π ρ p v) (h2 : lo = none → vlo = none) (h3 : ∀ p, hi = some p → ∃ v, vhi = some v ∧ DenP π ρ p v) (h4 : hi = none → vhi = none)
    {ob fc : List Prop} {r : PV} (h : sliceP P t x lo hi = some (ob, fc, r)) (ho : allP ob) : allP fc ∧ ∃ u, (∀ w : World, (Instr.sliceAt t v vlo vhi none).run P w = .ok u w) ∧ DenP π ρ r u := by
  unfold sliceP at h
  split at h
  · rename_i l hh hl' hh'
    split at h
    · rename_i hu
      split at h
      · rename_i s
        cases h
        obtain ⟨rfl, hs⟩ := hx
        obtain ⟨hr, hle, hle2⟩ := bd_run (P := P) (Nat.le_refl s.size) h1 h2 h3 h4 hl' hh' ho false
        refine ⟨trivial, .string (s.extract (loN l) (hiN s.size hh)), ?_, rfl, ?_⟩
        · simp [Instr.sliceAt, run_underlying hu, Instr.slice, hr]
        · rw [ByteArray.size_extract]; omega
      · cases h
    · rename_i e hu
      split at h
      · rename_i n hn
        split at h
        · rename_i ty xs
          cases hb : Nat.beq n ty.sz with
          | false => rw [hb] at h; cases h
          | true =>
            rw [hb] at h
            cases h
            have := beq_eq hb
            subst this
            obtain ⟨A, c, rfl, h5, h6, h7⟩ := hx
            obtain ⟨hr, hle, hle2⟩ := bd_run (P := P) h5 h1 h2 h3 h4 hl' hh' ho true
            have hlen : (cutL xs l hh).length = hiN xs.length hh - loN l := by rw [cutL_eq, List.length_drop, List.length_take]; omega
            refine ⟨trivial, .slice (if c = loN l then A else A.map (·.add (loN l * ty.sz))) (hiN xs.length hh - loN l) (c - loN l), ?_, (if c = loN l then A else A.map (·.add (loN l * ty.sz))), c - loN l, by rw [hlen], by rw [hlen]; omega, by omega, ?_⟩
            · simp [Instr.sliceAt, run_underlying hu, Instr.slice, hr, run_sizeOf hn]
            · by_cases hnil : cutL xs l hh = []
              · exact .inl hnil
              · have hpos : 0 < (cutL xs l hh).length := List.length_pos_iff.2 hnil
                rw [hlen] at hpos
                have hcl : ¬ (c = loN l) := by omega
                rcases h7 with rfl | ⟨g, o, vs, rfl, h8, h9⟩
                · simp only [List.length_nil] at hle2 hpos; omega
                · refine .inr ⟨g, o + loN l * ty.sz, vs, by simp [hcl, Addr.add_lit], h8, fun i y hi => ?_⟩
                  rw [cutL_eq, List.getElem?_drop, List.getElem?_take] at hi
                  split at hi
                  · have := h9 _ _ hi
                    rwa [show o + (loN l + i) * ty.sz = o + loN l * ty.sz + i * ty.sz by rw [Nat.add_mul]; omega] at this
                  · cases hi
        · rename_i ty b a m
          cases hb : Nat.beq n ty.sz with
          | false => rw [hb] at h; cases h
          | true =>
            rw [hb] at h
            cases h
            have := beq_eq hb
            subst this
            rcases hx with ⟨rfl, A, rfl⟩ | ⟨g, o, m', c, h5, h6, h7, h8, rfl⟩
            · obtain ⟨hr, hle, hle2⟩ := bd_run (P := P) (Nat.le_refl 0) h1 h2 h3 h4 hl' hh' ho true
              have e1 : hiN 0 hh = 0 := by omega
              have e2 : loN l = 0 := by omega
              rw [e1, e2] at hr
              refine ⟨trivial, .slice A 0 0, ?_, .inl ⟨by rw [e1]; simp, A, rfl⟩⟩
              simp [Instr.sliceAt, run_underlying hu, Instr.slice, hr, run_sizeOf hn]
            · obtain ⟨hr, hle, hle2⟩ := bd_run (P := P) h6 h1 h2 h3 h4 hl' hh' ho true
              by_cases hcl : c = loN l
              · subst hcl
                refine ⟨trivial, .slice (some ⟨g, o + a * ty.sz, none⟩) (hiN m hh - loN l) (loN l - loN l), ?_, .inl ⟨by omega, some ⟨g, o + a * ty.sz, none⟩, ?_⟩⟩
                · simp [Instr.sliceAt, run_underlying hu, Instr.slice, hr, run_sizeOf hn]
                · rw [show hiN m hh - loN l = 0 by omega, Nat.sub_self]
              · refine ⟨trivial, .slice (some ⟨g, o + (a + loN l) * ty.sz, none⟩) (hiN m hh - loN l) (c - loN l), ?_, .inr ⟨g, o, m', c - loN l, h5, by omega, by omega, ?_, rfl⟩⟩
                · simp [Instr.sliceAt, run_underlying hu, Instr.slice, hr, run_sizeOf hn, hcl, Addr.add_lit, Nat.add_mul, Nat.add_assoc]
                · rw [show a + loN l + (c - loN l) = a + c by omega]; exact h8
        · cases h
          simp only [DenP, DenC] at hx
          subst hx
          obtain ⟨hr, hle, hle2⟩ := bd_run (P := P) (Nat.le_refl 0) h1 h2 h3 h4 hl' hh' ho true
          have e1 : hiN 0 hh = 0 := by omega
          have e2 : loN l = 0 := by omega
          rw [e1, e2] at hr
          refine ⟨trivial, .slice none 0 0, ?_, rfl⟩
          simp [Instr.sliceAt, run_underlying hu, Instr.slice, hr, run_sizeOf hn]
        · cases h
      · cases h
    · cases h
  · cases h

/-! ### '&&', '||' -/
def pickP (s : SS) (gs : List (Nat × Bool)) (c a b : Operand) : PR :=
  match c, evL s gs c with
  | .tmp j, some (.c (.bool cb)) =>
    match a, b with
    | .const (.bool true), b => match evL s ((j, false) :: gs) b with
      | some (.c (.bool y)) => some ([], [], .c (.bool (cb || y)))
      | _ => bif cb then some ([], [], .c (.bool true)) else none
    | a, .const (.bool false) => match evL s ((j, true) :: gs) a with
      | some (.c (.bool x)) => some ([], [], .c (.bool (cb && x)))
      | _ => bif cb then none else some ([], [], .c (.bool false))
    | _, _ => none
  | _, _ => none
theorem pickP_ok {P : Program} {π : Pers} {ρ : Env} {s : SS} {ac : Act} {w : World} (S : Sat π ρ s ac w) {gs : List (Nat × Bool)} (hg : GH gs ac.tmps) {c a b : Operand} {ob fc : List Prop} {r : PV} (h : pickP s gs c a b = some (ob, fc, r)) :
    allP fc ∧ ∃ u, (∀ w : World, (do pure (.value (if ← asBool (ac.eval c) then ac.eval a else ac.eval b)) : Sem Next).run P w = .ok (.value u) w) ∧ DenP π ρ r u := by
  unfold pickP at h
  split at h
  · rename_i j cb hc
    have hcv := evL_ok S hg hc
    simp only [DenP, DenC] at hcv
    have hj : ac.tmps[j]? = some (.bool cb) := by
      simp only [Act.eval, Array.getD_eq_getD_getElem?] at hcv
      cases hh : ac.tmps[j]? with
      | none => rw [hh] at hcv; simp [undef] at hcv
      | some z => rw [hh] at hcv; simp at hcv; rw [hcv]
    split at h
    · split at h
      · rename_i y hy
        cases h
        refine ⟨trivial, .bool (cb || y), ?_, rfl⟩
        rw [hcv]
        cases cb with
        | true => simp [asBool, Act.eval]
        | false =>
          have := evL_ok S (gh_cons hg hj) hy
          simp only [DenP, DenC] at this
          simp [asBool, this]
      · cases cb with
        | false => cases h
        | true =>
          cases h
          refine ⟨trivial, .bool true, ?_, rfl⟩
          rw [hcv]
          simp [asBool, Act.eval]
    · split at h
      · rename_i y hy
        cases h
        refine ⟨trivial, .bool (cb && y), ?_, rfl⟩
        rw [hcv]
        cases cb with
        | false => simp [asBool, Act.eval]
        | true =>
          have := evL_ok S (gh_cons hg hj) hy
          simp only [DenP, DenC] at this
          simp [asBool, this]
      · cases cb with
        | true => cases h
        | false =>
          cases h
          refine ⟨trivial, .bool false, ?_, rfl⟩
          rw [hcv]
          simp [asBool, Act.eval]
    · cases h
  · cases h

def oneP : Option PV → PR | some p => some ([], [], p) | none => none
def evLo (s : SS) (gs : List (Nat × Bool)) : Option Operand → Option (Option PV)
  | none => some none
  | some x => match evL s gs x with
    | some p => some (some p)
    | none => none
def extP (s : SS) (x : Operand) (ix : Nat) : PR :=
  match x with
  | .tmp t => match lk s.fr t with
    | some (.tup l) => oneP (nth l ix)
    | _ => none
  | _ => none
def mn2 (x y : Int) : Int := if y < x then y else x
def mx2 (x y : Int) : Int := if y > x then y else x
def evCs (s : SS) (gs : List (Nat × Bool)) : List Operand → Option (List CV)
  | [] => some []
  | x :: r => match evL s gs x, evCs s gs r with
    | some (.c c), some cs => some (c :: cs)
    | _, _ => none
theorem evCs_ok {π : Pers} {ρ : Env} {s : SS} {a : Act} {w : World} (S : Sat π ρ s a w) {gs : List (Nat × Bool)} (hg : GH gs a.tmps) : ∀ (l : List Operand) (cs : List CV), evCs s gs l = some cs → All2 (DenC π ρ) cs (l.map a.eval)
  | [], cs, h => by simp only [evCs, Option.some.injEq] at h; subst h; trivial
  | x :: r, cs, h => by
    simp only [evCs] at h
    split at h
    · rename_i c cs' h1 h2
      cases h
      exact ⟨evL_ok S hg h1, evCs_ok S hg r cs' h2⟩
    · cases h
/-- The part of a row that a slice shows. -/
def vw {α : Type} (xs : List α) (a n : Nat) : List α := (xs.drop a).take n
/-! ### texts out of bytes -/
def strOf (xs : List Int) : ByteArray := ⟨(xs.map fun n => UInt8.ofNat n.toNat).toArray⟩
def bytesOf (s : ByteArray) : List Int := s.data.toList.map fun b => (b.toNat : Int)
theorem strOf_size (xs : List Int) : (strOf xs).size = xs.length := by
  show (xs.map fun n => UInt8.ofNat n.toNat).toArray.size = xs.length
  rw [List.size_toArray, List.length_map]
theorem bytesOf_len (s : ByteArray) : (bytesOf s).length = s.size := by
  unfold bytesOf
  rw [List.length_map, Array.length_toList]
  rfl
theorem foldl_strOf : ∀ (xs : List Int) (r : ByteArray), xs.foldl (fun r n => r.push (UInt8.ofNat n.toNat)) r = ⟨r.data ++ (xs.map fun n => UInt8.ofNat n.toNat).toArray⟩
  | [], r => by simp
  | n :: l, r => by
    simp only [List.foldl_cons, List.map_cons]
    rw [foldl_strOf l]
    simp [ByteArray.push]
def isBt (P : Program) (t : TypeId) : Bool := match P.underlying t with
  | some (.slice e) => match P.underlying e with | some (.int .u8) => true | _ => false
  | _ => false
theorem isBt_ok {P : Program} {t : TypeId} (h : isBt P t = true) : ∃ e, P.underlying t = some (.slice e) ∧ P.underlying e = some (.int .u8) := by
  unfold isBt at h
  split at h
  · rename_i e hu
    split at h
    · rename_i he; exact ⟨e, hu, he⟩
    · cases h
  · cases h
theorem isSt_ok {P : Program} {t : TypeId} (h : isSt P t = true) : P.underlying t = some .string := by
  unfold isSt at h
  split at h
  · rename_i hu; exact hu
  · cases h
theorem run_cells_str {P : Program} {w : World} {src dst : TypeId} (hs : isBt P src = true) (hd : isSt P dst = true) (g o n c : Nat) (xs : List Int) (hn : xs.length = n)
    (h : ∀ i x, xs[i]? = some x → w.cell? ⟨g, o + i, none⟩ = some (.int .u8 x)) : (convert src dst (.slice (some ⟨g, o, none⟩) n c)).run P w = .ok (.string (strOf xs)) w := by
  obtain ⟨e, h1, h2⟩ := isBt_ok hs
  rw [run_convert_bytes_string w src dst e _ n c h1 h2 (isSt_ok hd)]
  have hl := run_loadCells_list (P := P) w ⟨g, o, none⟩ (xs.map (Value.int .u8)) (fun j u hj => by
    rw [Addr.add_lit]
    rw [List.getElem?_map, Option.map_eq_some_iff] at hj
    obtain ⟨x, hx, rfl⟩ := hj
    exact h j x hx)
  rw [List.length_map, hn] at hl
  rw [run_bytesToString w _ n c xs hl, foldl_strOf]
  have he0 : ByteArray.empty.data = #[] := rfl
  rw [he0]
  simp [strOf]
theorem run_none_str {P : Program} {w : World} {src dst : TypeId} (hs : isBt P src = true) (hd : isSt P dst = true) (A : Option Addr) : (convert src dst (.slice A 0 0)).run P w = .ok (.string (strOf [])) w := by
  obtain ⟨e, h1, h2⟩ := isBt_ok hs
  cases A with
  | none =>
    rw [run_convert_bytes_string w src dst e _ 0 0 h1 h2 (isSt_ok hd)]
    rfl
  | some a =>
    rw [run_convert_bytes_string w src dst e _ 0 0 h1 h2 (isSt_ok hd)]
    have hl := run_loadCells_list (P := P) w a (([] : List Int).map (Value.int .u8)) (fun j u hj => by simp at hj)
    rw [run_bytesToString w a 0 0 [] hl]
    rfl
/-- A conversion that may read memory: bytes as a text. -/
def cvtP (P : Program) (s : SS) (src dst : TypeId) (x : PV) : PR :=
  match x with
  | .c (.row (.int .u8) xs) => bif isBt P src && isSt P dst then some ([], [], .c (.str (strOf xs))) else none
  | .c (.view (.int .u8) b a n) => match nth s.hp b with
    | some (.row _ (.int .u8) xs) => bif isBt P src && isSt P dst then some ([a + n ≤ xs.length], [], .c (.str (strOf (vw xs a n)))) else none
    | _ => none
  | .c .nils => bif isBt P src && isSt P dst then some ([], [], .c (.str (strOf []))) else none
  | x => convP P src dst x
def isRw : PV → Bool | .c (.row _ _) => true | _ => false
theorem cvtP_ok {P : Program} {π : Pers} {ρ : Env} {s : SS} {a : Act} {w : World} (S : Sat π ρ s a w) {src dst : TypeId} {x : PV} {u : Value} (hx : DenP π ρ x u) {ob fc : List Prop} {r : PV} (h : cvtP P s src dst x = some (ob, fc, r)) (ho : allP ob) :
    allP fc ∧ ∃ z, (∀ w', Alike (pz (isRw x) π) ρ s.hp w w' → (convert src dst u).run P w' = .ok z w') ∧ DenP π ρ r z := by
  unfold cvtP at h
  split at h
  · rename_i xs
    cases hb : (isBt P src && isSt P dst) with
    | false => rw [hb] at h; cases h
    | true =>
      rw [hb] at h
      cases h
      simp only [Bool.and_eq_true] at hb
      obtain ⟨A, c, rfl, h1, h2, h3⟩ := hx
      have hsz : (strOf xs).size ≤ maxI := by rw [strOf_size]; simp only [maxI, maxLen] at h2 ⊢; omega
      rcases h3 with rfl | ⟨g, o, vs, rfl, h4, h5⟩
      · refine ⟨trivial, .string (strOf []), fun w' _ => ?_, rfl, hsz⟩
        have := isBt_ok hb.1
        obtain ⟨e, k1, k2⟩ := this
        cases A with
        | none => rw [run_convert_bytes_string w' src dst e _ _ c k1 k2 (isSt_ok hb.2)]; rfl
        | some ad =>
          rw [run_convert_bytes_string w' src dst e _ _ c k1 k2 (isSt_ok hb.2)]
          have hl := run_loadCells_list (P := P) w' ad (([] : List Int).map (Value.int .u8)) (fun j u hj => by simp at hj)
          exact (run_bytesToString w' ad _ c [] hl).trans rfl
      · refine ⟨trivial, .string (strOf xs), fun w' hw => ?_, rfl, hsz⟩
        refine run_cells_str hb.1 hb.2 g o xs.length c xs rfl (fun i x hi => ?_)
        obtain ⟨e, f, he⟩ := S.hs.pers.1 g vs h4
        have he' := (hw g (.inl (by simp [pz, isRw, h4]))).trans he
        have hr : seg vs.toList (o + i * 1) 1 = [.int .u8 x] := h5 i x hi
        rw [cell_of_row w' g _ vs e f he']
        have := seg_get (l := vs.toList) (o := o + i * 1) (n := 1) (i := 0) (by rw [hr]; rfl)
        simpa using this
  · rename_i b a' n
    split at h
    · rename_i e0 xs hk
      cases hb : (isBt P src && isSt P dst) with
      | false => rw [hb] at h; cases h
      | true =>
        rw [hb] at h
        cases h
        simp only [Bool.and_eq_true] at hb
        obtain ⟨hle, _⟩ := ho
        rw [nth_eq] at hk
        have hlen : (vw xs a' n).length = n := by unfold vw; rw [List.length_take, List.length_drop]; omega
        rcases hx with ⟨h0, A, rfl⟩ | ⟨g, o, m, c, h1, h2, h3, h4, rfl⟩
        · subst h0
          have : vw xs a' 0 = [] := by simp [vw]
          rw [this]
          exact ⟨trivial, .string (strOf []), fun w' _ => run_none_str hb.1 hb.2 A, rfl, by rw [strOf_size]; exact Nat.zero_le _⟩
        · refine ⟨trivial, .string (strOf (vw xs a' n)), fun w' hw => ?_, rfl, by rw [strOf_size, hlen]; simp only [maxI, maxLen] at h3 ⊢; omega⟩
          refine run_cells_str hb.1 hb.2 g _ n c (vw xs a' n) hlen (fun i x hi => ?_)
          have hi' : xs[a' + i]? = some x := by
            unfold vw at hi
            have hin : i < n := by have := (List.getElem?_eq_some_iff.1 hi).1; rw [List.length_take, List.length_drop] at this; omega
            rw [List.getElem?_take, if_pos hin, List.getElem?_drop] at hi
            exact hi
          rcases S.hs.items b _ hk with ⟨q1, _⟩ | ⟨g', o', vs, q1, q2, q3, q4, q5⟩
          · rw [q1] at h1; cases h1
          · rw [q1] at h1
            cases h1
            have q2' := (hw g (.inr ⟨b, _, hk, by simp, own_main q1⟩)).trans q2
            have hr : seg vs.toList (o + (a' + i) * 1) 1 = [.int .u8 x] := q5 (a' + i) x hi'
            rw [cell_of_row w' g _ vs e0 (0, 0) q2']
            have := seg_get (l := vs.toList) (o := o + (a' + i) * 1) (n := 1) (i := 0) (by rw [hr]; rfl)
            show vs[o + a' * 1 + i]? = _
            rw [show o + a' * 1 + i = o + (a' + i) * 1 + 0 by omega]
            simpa using this
    · cases h
  · cases hb : (isBt P src && isSt P dst) with
    | false => rw [hb] at h; cases h
    | true =>
      rw [hb] at h
      cases h
      simp only [Bool.and_eq_true] at hb
      have hx : u = .slice none 0 0 := hx
      subst hx
      exact ⟨trivial, .string (strOf []), fun w' _ => run_none_str hb.1 hb.2 none, rfl, by rw [strOf_size]; exact Nat.zero_le _⟩
  · obtain ⟨h1, z, h2, h3⟩ := convP_ok (P := P) hx h
    exact ⟨h1, z, fun w' _ => h2 w', h3⟩
/-- The operations that only read. -/
def pureOp (P : Program) (s : SS) (gs : List (Nat × Bool)) (o : Oper) : PR :=
  match o.op with
  | .move x => oneP (evL s gs x)
  | .assign x => oneP (evL s gs x)
  | .pick c a b => pickP s gs c a b
  | .load t x => match evL s gs x with | some p => loadC P s t p | none => none
  | .nilCheck x => match evL s gs x with | some p => oneP (nilC p) | none => none
  | .binOp op t x y _ => match evL s gs x, evL s gs y with | some p, some q => binP P op t p q | _, _ => none
  | .unOp op _ x => match evL s gs x with | some p => unP op p | none => none
  | .convert src dst x => match evL s gs x with | some p => cvtP P s src dst p | none => none
  | .slice t x lo hi none => match evL s gs x, evLo s gs lo, evLo s gs hi with | some p, some l, some h => sliceP P t p l h | _, _, _ => none
  | .fieldAddr t x f => match evL s gs x with | some p => fieldAddrC P t f p | none => none
  | .field t x f => match evL s gs x with | some p => fieldC P t f p | none => none
  | .indexAddr t x ix => match evL s gs x, evL s gs ix with | some p, some q => indexAddrC P t p q | _, _ => none
  | .index t x ix => match evL s gs x, evL s gs ix with | some p, some q => indexC P t p q | _, _ => none
  | .extract x ix => extP s x ix
  | .makeFunc (.func f) first captured => match first.toList, evCs s gs captured.toList with | [], some cs => some ([], [], .clo f cs) | _, _ => none
  | .call c => match c.callee, c.args.toList, c.argTypes.toList with
    | .builtin .len, [x], [t] => match evL s gs x with | some p => lenP P t p | none => none
    | .builtin .min, [x, y], _ => match evL s gs x, evL s gs y with
      | some (.c (.int k a)), some (.c (.int _ b)) => some ([], [], .c (.int k (mn2 a b)))
      | _, _ => none
    | .builtin .max, [x, y, z], _ => match evL s gs x, evL s gs y, evL s gs z with
      | some (.c (.int k a)), some (.c (.int _ b)), some (.c (.int _ c)) => some ([], [], .c (.int k (mx2 (mx2 a b) c)))
      | _, _, _ => none
    | .builtin .max, [x, y], _ => match evL s gs x, evL s gs y with
      | some (.c (.int k a)), some (.c (.int _ b)) => some ([], [], .c (.int k (mx2 a b)))
      | _, _ => none
    | _, _, _ => none
  | _ => none
/-- Whether the operation reads what lasts. -/
def eL (s : SS) (gs : List (Nat × Bool)) (o : Oper) : Bool :=
  match o.op with
  | .load _ x => match evL s gs x with | some p => isEp p | none => false
  | .convert _ _ x => match evL s gs x with | some p => isRw p | none => false
  | _ => false
theorem vrun {P : Program} {w w' : World} {s : Sem Value} {u : Value} (h : s.run P w = .ok u w') : (do pure (.value (← s)) : Sem Next).run P w = .ok (.value u) w' := by
  simp [h]
theorem arr_of_list {α : Type} {a : Array α} {l : List α} (h : a.toList = l) : a = l.toArray := by rw [← h]
theorem pureOp_u {P : Program} {π : Pers} {ρ : Env} {s : SS} {a : Act} {w : World} (S : Sat π ρ s a w) {gs : List (Nat × Bool)} (hg : GH gs a.tmps) {o : Oper} {ob fc : List Prop} {r : PV} (h : pureOp P s gs o = some (ob, fc, r)) (ho : allP ob) :
    allP fc ∧ ∃ u, (∀ w', Alike (pz (eL s gs o) π) ρ s.hp w w' → (execOp a.eval o).run P w' = .ok (.value u) w') ∧ DenP π ρ r u := by
  have key : ∀ {q : Option PV} {ob fc : List Prop} {r : PV}, oneP q = some (ob, fc, r) → q = some r ∧ allP fc := by
    intro q ob fc r hq
    unfold oneP at hq
    split at hq
    · cases hq; exact ⟨rfl, trivial⟩
    · cases hq
  unfold pureOp at h
  unfold execOp
  split at h
  all_goals try (rename_i heq; rw [heq])
  · obtain ⟨h1, h2⟩ := key h
    exact ⟨h2, _, fun _ _ => rfl, evL_ok S hg h1⟩
  · obtain ⟨h1, h2⟩ := key h
    exact ⟨h2, _, fun _ _ => rfl, evL_ok S hg h1⟩
  · obtain ⟨h1, u, h2, h3⟩ := pickP_ok (P := P) S hg h
    exact ⟨h1, u, fun w' _ => h2 w', h3⟩
  · split at h
    · rename_i p hp
      obtain ⟨h1, u, h2, h3⟩ := loadC_ok (P := P) S (evL_ok S hg hp) h ho
      exact ⟨h1, u, fun w' hw => vrun (h2 w' (by simpa only [eL, heq, hp] using hw)), h3⟩
    · cases h
  · rename_i xo
    split at h
    · rename_i p hp
      obtain ⟨h1, h2⟩ := key h
      have hd := evL_ok S hg hp
      clear hp
      revert hd
      show DenP π ρ p (a.eval xo) → _
      dsimp only
      generalize a.eval xo = z
      intro hd
      unfold nilC at h1
      split at h1 <;> cases h1
      · obtain ⟨g, o, n, hr, hv⟩ := id hd; subst hv; exact ⟨h2, _, fun _ _ => rfl, hd⟩
      · obtain ⟨g, o, n, hr, hv⟩ := id hd; subst hv; exact ⟨h2, _, fun _ _ => rfl, hd⟩
      · obtain ⟨g, o, n, hr, hr2, hv⟩ := id hd; subst hv; exact ⟨h2, _, fun _ _ => rfl, hd⟩
      · have hv : z = _ := hd; subst hv; exact ⟨h2, _, fun _ _ => rfl, hd⟩
      · obtain ⟨vs, hv, hvs⟩ := id hd; subst hv; exact ⟨h2, _, fun _ _ => rfl, hd⟩
    · cases h
  · split at h
    · rename_i p q hp hq
      obtain ⟨h1, u, h2, h3⟩ := binP_ok (P := P) (evL_ok S hg hp) (evL_ok S hg hq) h ho _ _
      exact ⟨h1, u, fun w' _ => vrun (h2 w'), h3⟩
    · cases h
  · split at h
    · rename_i p hp
      obtain ⟨h1, u, h2, h3⟩ := unP_ok (P := P) (evL_ok S hg hp) h
      exact ⟨h1, u, fun w' _ => vrun (h2 w'), h3⟩
    · cases h
  · split at h
    · rename_i p hp
      obtain ⟨h1, u, h2, h3⟩ := cvtP_ok (P := P) S (evL_ok S hg hp) h ho
      exact ⟨h1, u, fun w' hw => vrun (h2 w' (by simpa only [eL, heq, hp] using hw)), h3⟩
    · cases h
  · split at h
    · rename_i p l hh hp hl hh'
      have k1 : ∀ {q : Option Operand} {z : Option PV}, evLo s gs q = some z → (∀ p, z = some p → ∃ v, q.map a.eval = some v ∧ DenP π ρ p v) ∧ (z = none → q.map a.eval = none) := by
        intro q z hq
        cases q with
        | none => simp only [evLo, Option.some.injEq] at hq; subst hq; exact ⟨fun p hp => (by cases hp), fun _ => rfl⟩
        | some y =>
          simp only [evLo] at hq
          split at hq
          · rename_i p' hp'
            cases hq
            exact ⟨fun p hp => (by cases hp; exact ⟨_, rfl, evL_ok S hg hp'⟩), fun h => (by cases h)⟩
          · cases hq
      obtain ⟨h1, u, h2, h3⟩ := sliceP_ok (P := P) (evL_ok S hg hp) (k1 hl).1 (k1 hl).2 (k1 hh').1 (k1 hh').2 h ho
      exact ⟨h1, u, fun w' _ => vrun (h2 w'), h3⟩
    · cases h
  · split at h
    · rename_i p hp
      obtain ⟨h1, u, h2, h3⟩ := fieldAddrC_ok (P := P) (evL_ok S hg hp) h
      exact ⟨h1, u, fun w' _ => vrun (h2 w'), h3⟩
    · cases h
  · split at h
    · rename_i p hp
      obtain ⟨h1, u, h2, h3⟩ := fieldC_ok (P := P) (evL_ok S hg hp) h
      exact ⟨h1, u, fun w' _ => vrun (h2 w'), h3⟩
    · cases h
  · split at h
    · rename_i p q hp hq
      obtain ⟨h1, u, h2, h3⟩ := indexAddrC_ok (P := P) (evL_ok S hg hp) (evL_ok S hg hq) h ho
      exact ⟨h1, u, fun w' _ => vrun (h2 w'), h3⟩
    · cases h
  · split at h
    · rename_i p q hp hq
      obtain ⟨h1, u, h2, h3⟩ := indexC_ok (P := P) (evL_ok S hg hp) (evL_ok S hg hq) h ho
      exact ⟨h1, u, fun w' _ => vrun (h2 w'), h3⟩
    · cases h
  · unfold extP at h
    split at h
    · rename_i t
      split at h
      · rename_i l hl
        obtain ⟨h1, h2⟩ := key h
        obtain ⟨v, h3, vs, rfl, h4⟩ := S.fs t _ hl
        rw [nth_eq] at h1
        obtain ⟨u, hu, hd⟩ := all2_get h4 _ _ h1
        refine ⟨h2, u, fun w' _ => vrun ?_, hd⟩
        simp [Act.eval, Array.getD_eq_getD_getElem?, h3, Instr.extract, hu]
      · cases h
    · cases h
  · rename_i f first captured
    split at h
    · rename_i cs hf hcs
      cases h
      refine ⟨trivial, _, fun w' _ => vrun rfl, _, ?_, evCs_ok S hg _ _ hcs⟩
      rw [arr_of_list hf]
      simp only [List.map_toArray, List.map_nil]
      congr 1
      apply Array.ext'; simp
    · cases h
  · rename_i c
    obtain ⟨callee, args, argTypes⟩ := c
    simp only at h
    split at h
    · rename_i x t ha ht
      rw [arr_of_list ha, arr_of_list ht]
      split at h
      · rename_i p hp
        obtain ⟨h1, u, h2, h3⟩ := lenP_ok (P := P) (ty := o.type) (evL_ok S hg hp) h
        refine ⟨h1, u, ?_, h3⟩
        simp [resolve, invoke, builtin, h2]
      · cases h
    · rename_i x y ha
      rw [arr_of_list ha]
      split at h
      · rename_i k i k' j hp hq
        cases h
        have e1 := evL_ok S hg hp
        have e2 := evL_ok S hg hq
        simp only [DenP, DenC] at e1 e2
        refine ⟨trivial, .int k (mn2 i j), ?_, rfl⟩
        simp [resolve, invoke, builtin, Builtin.min_, Builtin.min2, e1, e2, mn2]
      · cases h
    · rename_i x y z ha
      rw [arr_of_list ha]
      split at h
      · rename_i k i k' j k'' l hp hq hq'
        cases h
        have e1 := evL_ok S hg hp
        have e2 := evL_ok S hg hq
        have e3 := evL_ok S hg hq'
        simp only [DenP, DenC] at e1 e2 e3
        refine ⟨trivial, .int k (mx2 (mx2 i j) l), ?_, rfl⟩
        simp [resolve, invoke, builtin, Builtin.max_, Builtin.max2, e1, e2, e3, mx2]
      · cases h
    · rename_i x y ha
      rw [arr_of_list ha]
      split at h
      · rename_i k i k' j hp hq
        cases h
        have e1 := evL_ok S hg hp
        have e2 := evL_ok S hg hq
        simp only [DenP, DenC] at e1 e2
        refine ⟨trivial, .int k (mx2 i j), ?_, rfl⟩
        simp [resolve, invoke, builtin, Builtin.max_, Builtin.max2, e1, e2, mx2]
      · cases h
    · cases h
  · cases h
theorem pureOp_ok {P : Program} {π : Pers} {ρ : Env} {s : SS} {a : Act} {w : World} (S : Sat π ρ s a w) {gs : List (Nat × Bool)} (hg : GH gs a.tmps) {o : Oper} {ob fc : List Prop} {r : PV} (h : pureOp P s gs o = some (ob, fc, r)) (ho : allP ob) :
    allP fc ∧ ∃ u, (execOp a.eval o).run P w = .ok (.value u) w ∧ DenP π ρ r u := by
  obtain ⟨h1, u, h2, h3⟩ := pureOp_u S hg h ho
  exact ⟨h1, u, h2 w (Alike.refl _ _ _ _), h3⟩
end Go.Proofs.Ytckijackbldkhaa.Sx
