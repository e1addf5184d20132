/- Decimal digits, the lowest first: what a list of digits is worth, and that a number has one list only. Plain Lean; no condition. -/
import Derived.Test.YtekndmlcmepekaaWE
namespace Go.Proofs.Ytekndmlcmepekaa.Q
open Go.RowKit Go.Proofs.YtekndmlcmepekaaW.PrintWords
set_option linter.unusedVariables false

def val : List Int → Int
  | [] => 0
  | d :: r => d + 10 * val r
def Dg (ds : List Int) : Prop := ∀ d ∈ ds, 0 ≤ d ∧ d < 10
def Can : List Int → Prop
  | [] => True
  | d :: r => (0 ≤ d ∧ d < 10) ∧ (r = [] → d ≠ 0) ∧ Can r
theorem Can_dg : ∀ {ds : List Int}, Can ds → Dg ds
  | [], _ => fun d h => absurd h (by simp)
  | d :: r, h => by
    intro x hx
    rcases List.mem_cons.1 hx with rfl | hx
    · exact h.1
    · exact Can_dg h.2.2 x hx
theorem Dg_tail {d : Int} {r : List Int} (h : Dg (d :: r)) : Dg r := fun x hx => h x (List.mem_cons_of_mem _ hx)
theorem Dg_head {d : Int} {r : List Int} (h : Dg (d :: r)) : 0 ≤ d ∧ d < 10 := h d List.mem_cons_self
theorem val_nonneg : ∀ {ds : List Int}, Dg ds → 0 ≤ val ds
  | [], _ => by simp [val]
  | d :: r, h => by
    have := val_nonneg (Dg_tail h)
    have := Dg_head h
    show 0 ≤ d + 10 * val r
    omega
theorem val_lt : ∀ {ds : List Int}, Dg ds → val ds < 10 ^ ds.length
  | [], _ => by simp [val]
  | d :: r, h => by
    have := val_lt (Dg_tail h)
    have := Dg_head h
    show d + 10 * val r < 10 ^ (r.length + 1)
    rw [Int.pow_succ]
    omega
theorem can_pos : ∀ {ds : List Int}, Can ds → ds ≠ [] → 0 < val ds
  | [], _, h => absurd rfl h
  | d :: r, h, _ => by
    show 0 < d + 10 * val r
    by_cases hr : r = []
    · subst hr
      have h1 := h.1
      have h2 := h.2.1 rfl
      simp only [val]
      omega
    · have := can_pos h.2.2 hr
      have := h.1
      omega
theorem can_inj : ∀ {a b : List Int}, Can a → Can b → val a = val b → a = b
  | [], [], _, _, _ => rfl
  | [], b :: s, _, hb, e => by
    have := can_pos hb (by simp)
    rw [← e] at this
    exact absurd this (by simp [val])
  | a :: r, [], ha, _, e => by
    have := can_pos ha (by simp)
    rw [e] at this
    exact absurd this (by simp [val])
  | a :: r, b :: s, ha, hb, e => by
    have e' : a + 10 * val r = b + 10 * val s := e
    have h1 := ha.1
    have h2 := hb.1
    have : a = b := by omega
    subst this
    rw [can_inj ha.2.2 hb.2.2 (by omega)]
def dg : Nat → Int → List Int
  | 0, _ => []
  | f + 1, n => if n = 0 then [] else n % 10 :: dg f (n / 10)
theorem dg_zero (f : Nat) : dg f 0 = [] := by cases f <;> simp [dg]
theorem dg_len : ∀ (f : Nat) (n : Int), (dg f n).length ≤ f
  | 0, _ => by simp [dg]
  | f + 1, n => by
    unfold dg
    split
    · simp
    · have := dg_len f (n / 10)
      simp only [List.length_cons]
      omega
theorem dg_is : ∀ (f : Nat) (n : Int), 0 ≤ n → n < 10 ^ f → Can (dg f n) ∧ val (dg f n) = n
  | 0, n, h0, h1 => by
    have : n = 0 := by simp at h1; omega
    subst this
    exact ⟨trivial, rfl⟩
  | f + 1, n, h0, h1 => by
    unfold dg
    split
    · rename_i h
      exact ⟨trivial, h.symm⟩
    · rw [Int.pow_succ] at h1
      obtain ⟨h2, h3⟩ := dg_is f (n / 10) (by omega) (by omega)
      refine ⟨⟨by omega, ?_, h2⟩, ?_⟩
      · intro h
        rw [h] at h3
        simp only [val] at h3
        omega
      · show n % 10 + 10 * val (dg f (n / 10)) = n
        rw [h3]
        omega
/- 39 digits hold every number of 128 bits -/
def D (n : Int) : List Int := dg 39 n
theorem D_is {n : Int} (h0 : 0 ≤ n) (h1 : n ≤ 340282366920938463463374607431768211456) : Can (D n) ∧ val (D n) = n :=
  dg_is 39 n h0 (Int.lt_of_le_of_lt h1 (by decide))
theorem D_len (n : Int) : (D n).length ≤ 39 := dg_len 39 n
theorem D_val {ds : List Int} (hc : Can ds) (h : val ds ≤ 340282366920938463463374607431768211456) : D (val ds) = ds := by
  obtain ⟨h1, h2⟩ := D_is (val_nonneg (Can_dg hc)) h
  exact can_inj h1 hc h2
/- the text of a number -/
def txt (neg : Bool) (ds : List Int) : List Int := (if neg = true then [45] else []) ++ (if ds = [] then [48] else (ds.map (48 + ·)).reverse)
theorem txt_inj {n m : Bool} {a b : List Int} (ha : Can a) (hb : Can b) (h : txt n a = txt m b) : n = m ∧ a = b := by
  have body : ∀ {a b : List Int}, Can a → Can b → (if a = [] then [48] else (a.map (48 + ·)).reverse) = (if b = [] then [48] else (b.map (48 + ·)).reverse) → a = b := by
    intro a b ha hb h
    have up : ∀ {a : List Int}, Can a → a ≠ [] → (a.map (48 + ·)).reverse ≠ [48] := by
      intro a ha hne h
      have h := congrArg List.reverse h
      rw [List.reverse_reverse] at h
      match a, ha, hne with
      | [d], ha, _ => simp at h; exact ha.2.1 rfl (by omega)
      | d :: e :: r, _, _ => simp at h
    by_cases h1 : a = [] <;> by_cases h2 : b = []
    · rw [h1, h2]
    · rw [if_pos h1, if_neg h2] at h; exact absurd h.symm (up hb h2)
    · rw [if_neg h1, if_pos h2] at h; exact absurd h (up ha h1)
    · rw [if_neg h1, if_neg h2] at h
      have h := List.reverse_inj.1 h
      have inj : ∀ (a b : List Int), a.map (48 + ·) = b.map (48 + ·) → a = b := by
        intro a
        induction a with
        | nil => intro b h; cases b with | nil => rfl | cons _ _ => simp at h
        | cons x r ih =>
          intro b h
          cases b with
          | nil => simp at h
          | cons y s =>
            simp only [List.map_cons, List.cons.injEq] at h
            rw [ih s h.2, show x = y from by omega]
      exact inj a b h
  have hd : ∀ {a : List Int}, Can a → ∀ t, (if a = [] then [48] else (a.map (48 + ·)).reverse) ≠ 45 :: t := by
    intro a ha t h
    by_cases h1 : a = []
    · rw [if_pos h1] at h; simp at h
    · rw [if_neg h1] at h
      have hm : (45 : Int) ∈ (a.map (48 + ·)).reverse := by rw [h]; exact List.mem_cons_self
      simp only [List.mem_reverse, List.mem_map] at hm
      obtain ⟨x, hx, he⟩ := hm
      have := Can_dg ha x hx
      omega
  unfold txt at h
  cases n <;> cases m
  · simp only [Bool.false_eq_true, if_false, List.nil_append] at h; exact ⟨rfl, body ha hb h⟩
  · simp only [Bool.false_eq_true, if_false, List.nil_append, if_true, List.cons_append] at h; exact absurd h (hd ha _)
  · simp only [Bool.false_eq_true, if_false, List.nil_append, if_true, List.cons_append] at h; exact absurd h.symm (hd hb _)
  · simp only [if_true, List.cons_append, List.nil_append, List.cons.injEq, true_and] at h; exact ⟨rfl, body ha hb h⟩
/- texts as bytes -/
theorem txt_byte {n : Bool} {ds : List Int} (h : Dg ds) : ∀ b ∈ txt n ds, 0 ≤ b ∧ b < 256 := by
  intro b hb
  unfold txt at hb
  rcases List.mem_append.1 hb with hb | hb
  · split at hb
    · simp at hb; omega
    · simp at hb
  · split at hb
    · simp at hb; omega
    · simp only [List.mem_reverse, List.mem_map] at hb
      obtain ⟨x, hx, rfl⟩ := hb
      have := h x hx
      omega
theorem bytesOf_nums {xs : List Int} (h : ∀ b ∈ xs, 0 ≤ b ∧ b < 256) : bytesOf (strOfNums xs) = xs := by
  unfold bytesOf strOfNums
  simp only [List.map_map]
  induction xs with
  | nil => rfl
  | cons x r ih =>
    have h1 := h x List.mem_cons_self
    rw [List.map_cons, ih (fun b hb => h b (List.mem_cons_of_mem _ hb))]
    congr 1
    simp only [Function.comp]
    have e : (UInt8.ofNat x.toNat).toNat = x.toNat := by simp; omega
    rw [e]
    omega
theorem bytesOf_inj {a b : ByteArray} (h : bytesOf a = bytesOf b) : a = b := by
  have : a.data.toList = b.data.toList := by
    unfold bytesOf at h
    have inj : ∀ (x y : List UInt8), (x.map fun b => (b.toNat : Int)) = (y.map fun b => (b.toNat : Int)) → x = y := by
      intro x
      induction x with
      | nil => intro y h; cases y with | nil => rfl | cons _ _ => simp at h
      | cons u r ih =>
        intro y h
        cases y with
        | nil => simp at h
        | cons v s =>
          simp only [List.map_cons, List.cons.injEq] at h
          rw [ih s h.2, UInt8.toNat.inj (by omega : u.toNat = v.toNat)]
    exact inj _ _ h
  cases a; cases b
  simp only [ByteArray.mk.injEq]
  exact Array.ext' this
theorem toList_beq (a b : ByteArray) : (a.toList == b.toList) = decide (bytesOf a = bytesOf b) := by
  rw [ByteArray.toList_eq, ByteArray.toList_eq, Bool.eq_iff_iff, beq_iff_eq, decide_eq_true_eq]
  constructor
  · intro h; unfold bytesOf; rw [h]
  · intro h; rw [bytesOf_inj h]
theorem bytes_len (s : ByteArray) : (bytesOf s).length = s.size := by unfold bytesOf; rw [List.length_map, Array.length_toList]; rfl
theorem rd_bytes (s : ByteArray) (i : Int) : rd (bytesOf s) i = bt s i := by
  unfold rd bytesOf bt
  rw [List.getD_eq_getElem?_getD, List.getElem?_map, Array.getElem?_toList]
  by_cases h : i.toNat < s.size
  · rw [dif_pos h, Array.getElem?_eq_getElem (show i.toNat < s.data.size from h)]
    rfl
  · rw [dif_neg h, Array.getElem?_eq_none (show s.data.size ≤ i.toNat from Nat.le_of_not_lt h)]
    rfl
end Go.Proofs.Ytekndmlcmepekaa.Q
