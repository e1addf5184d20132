/- Print and Parse of wide: the decimal text of a number, and the number of a text. Plain Lean; no condition. -/
import Derived.Test.YtjnaebcdidilgaaWF
import Derived.Test.YtjnaebcdidilgaaQx10
import Derived.Test.YtjnaebcdidilgaaQx11
import Derived.Test.YtjnaebcdidilgaaQx7
namespace Go.Proofs.Ytjnaebcdidilgaa.Q
open Go.RowKit Go.Proofs.YtjnaebcdidilgaaW.PrintWords Go.Proofs.YtjnaebcdidilgaaW.PrintLast Go.Proofs.YtjnaebcdidilgaaW.PrintMore
set_option linter.unusedVariables false

theorem Reverse_l0 : ∀ (n : Nat) (m a b : List Int) (k : Nat), m.length ≤ n → m.length < k → a.length + m.length + b.length < 4611686018427387904 →
    slices_Reverse_byte_byte.l0 k (a ++ (m ++ b)) a.length ((a.length : Int) + m.length - 1) = some (a ++ (m.reverse ++ b))
  | 0, m, a, b, k, hn, hk, hb => by
    have : m = [] := List.eq_nil_of_length_eq_zero (by omega)
    subst this
    obtain ⟨k, rfl⟩ : ∃ q, k = q + 1 := ⟨k - 1, by omega⟩
    simp only [slices_Reverse_byte_byte.l0]
    rw [if_neg (by simp only [List.length_nil]; omega)]
    rfl
  | n + 1, m, a, b, k, hn, hk, hb => by
    obtain ⟨k, rfl⟩ : ∃ q, k = q + 1 := ⟨k - 1, by omega⟩
    match m, hn, hk, hb with
    | [], _, _, _ =>
      simp only [slices_Reverse_byte_byte.l0]
      rw [if_neg (by simp only [List.length_nil]; omega)]
      rfl
    | [x], _, _, _ =>
      simp only [slices_Reverse_byte_byte.l0]
      rw [if_neg (by simp)]
      rfl
    | x :: x' :: r, hn, hk, hb =>
      obtain ⟨m', y, hm⟩ : ∃ m' y, x' :: r = m' ++ [y] := ⟨(x' :: r).dropLast, (x' :: r).getLast (by simp), (List.dropLast_concat_getLast (by simp)).symm⟩
      rw [hm] at hn hk hb ⊢
      simp only [List.length_cons, List.length_append, List.length_nil] at hn hk hb ⊢
      simp only [slices_Reverse_byte_byte.l0, List.cons_append, List.append_assoc, List.nil_append, List.length_append, List.length_cons]
      rw [if_pos (by omega), if_pos (by omega), if_pos (by omega), if_pos (by omega), if_pos (by omega)]
      have e1 : rd (a ++ (x :: (m' ++ (y :: b)))) (a.length : Int) = x := by simp [rd]
      have e2 : rd (a ++ (x :: (m' ++ (y :: b)))) ((a.length : Int) + ((m'.length + (0 + 1) + 1 : Nat) : Int) - 1) = y := by
        have : ((a.length : Int) + ((m'.length + (0 + 1) + 1 : Nat) : Int) - 1).toNat = a.length + (m'.length + 1) := by omega
        unfold rd
        rw [this]
        simp [List.getD_eq_getElem?_getD]
      have s1 : ((a.length : Int)).toNat = a.length := by omega
      have s2 : ((a.length : Int) + ((m'.length + (0 + 1) + 1 : Nat) : Int) - 1).toNat = a.length + (m'.length + 1) := by omega
      have e3 : ((a ++ (x :: (m' ++ (y :: b)))).set a.length y).set (a.length + (m'.length + 1)) x = (a ++ [y]) ++ (m' ++ ([x] ++ b)) := by
        rw [List.set_append_right _ _ (by omega), Nat.sub_self, List.set_cons_zero, List.set_append_right _ _ (by omega), Nat.add_sub_cancel_left, List.set_cons_succ, List.set_append_right _ _ (by omega), Nat.sub_self, List.set_cons_zero]
        simp
      rw [e1, e2, s1, s2, e3]
      have ih := Reverse_l0 n m' (a ++ [y]) ([x] ++ b) k (by omega) (by omega) (by simp only [List.length_append, List.length_cons, List.length_nil]; omega)
      have w1 : wrap64 ((a.length : Int) + 1) = ((a ++ [y]).length : Int) := by unfold wrap64; simp only [List.length_append, List.length_cons, List.length_nil]; omega
      have w2 : wrap64 ((a.length : Int) + ((m'.length + (0 + 1) + 1 : Nat) : Int) - 1 - 1) = ((a ++ [y]).length : Int) + m'.length - 1 := by unfold wrap64; simp only [List.length_append, List.length_cons, List.length_nil]; omega
      rw [w1, w2, ih]
      simp
theorem Reverse_is (k : Nat) (l : List Int) (hk : l.length < k) (hl : l.length < 4611686018427387904) : slices_Reverse_byte_byte.f k l = some l.reverse := by
  have := Reverse_l0 l.length l [] [] k (Nat.le_refl _) hk (by simpa using hl)
  unfold slices_Reverse_byte_byte.f
  rw [show wrap64 ((l.length : Int) - 1) = (([] : List Int).length : Int) + l.length - 1 from by unfold wrap64; simp only [List.length_nil]; omega]
  simpa using this

theorem Print_l0 (neg : Bool) : ∀ (f : Nat) (n : Int), 0 ≤ n → n < 10 ^ (f + 1) → n < 340282366920938463463374607431768211456 → ∀ (out : List Int) (k : Nat), out.length + f ≤ 60 → 500 + f < k →
    wide_Print.l0 k neg out (n / 18446744073709551616) (n % 18446744073709551616) = some (strOfNums ((out ++ (if n = 0 then [48] else (dg (f + 1) n).map (48 + ·)) ++ (if neg = true then [45] else [])).reverse)) := by
  intro f
  induction f with
  | zero =>
    intro n h0 h1 h2 out k hl hk
    obtain ⟨k, rfl⟩ : ∃ q, k = q + 1 := ⟨k - 1, by omega⟩
    have h1 : n < 10 := by simpa using h1
    obtain ⟨r1, r2, r3, r4, hp, w1, w2, w3, w4, e1, e2⟩ := part_is k (by omega) (ah := n / 18446744073709551616) (al := n % 18446744073709551616) (bh := 0) (bl := 10) (by unfold W64; omega) (by unfold W64; omega) W64_0 W64_10 (by decide)
    rw [uback, show uval 0 10 = 10 from rfl] at e1 e2
    have q1 : r1 = 0 ∧ r2 = 0 := by unfold uval W64 at *; omega
    have q2 : r4 = n := by unfold uval W64 at *; omega
    simp only [wide_Print.l0]
    rw [hp, Option.bind_some]
    simp only
    rw [if_pos (by omega), Option.bind_some, if_pos (by simp [q1.1, q1.2])]
    have hw : IntKind.u64.wrap (48 + r4) % 256 = 48 + n := by rw [wrap_u64]; omega
    rw [hw]
    have hd : (if n = 0 then ([48] : List Int) else (dg (0 + 1) n).map (48 + ·)) = [48 + n] := by
      by_cases hn : n = 0
      · rw [if_pos hn, hn]; rfl
      · rw [if_neg hn]
        simp only [dg, if_neg hn, List.map_cons, List.map_nil]
        rw [show n % 10 = n from by omega]
    rw [hd]
    cases neg
    · rw [if_neg (by decide), Reverse_is k _ (by simp; omega) (by simp; omega), Option.bind_some]
      simp
    · rw [if_pos rfl, if_pos (by simp; omega), Reverse_is k _ (by simp; omega) (by simp; omega), Option.bind_some]
      simp
  | succ f ih =>
    intro n h0 h1 h2 out k hl hk
    obtain ⟨k, rfl⟩ : ∃ q, k = q + 1 := ⟨k - 1, by omega⟩
    obtain ⟨r1, r2, r3, r4, hp, w1, w2, w3, w4, e1, e2⟩ := part_is k (by omega) (ah := n / 18446744073709551616) (al := n % 18446744073709551616) (bh := 0) (bl := 10) (by unfold W64; omega) (by unfold W64; omega) W64_0 W64_10 (by decide)
    rw [uback, show uval 0 10 = 10 from rfl] at e1 e2
    have q2 : r4 = n % 10 := by unfold uval W64 at *; omega
    have q3 : r1 = n / 10 / 18446744073709551616 ∧ r2 = n / 10 % 18446744073709551616 := by unfold uval W64 at *; omega
    simp only [wide_Print.l0]
    rw [hp, Option.bind_some]
    simp only
    rw [if_pos (by omega), Option.bind_some]
    have hw : IntKind.u64.wrap (48 + r4) % 256 = 48 + n % 10 := by rw [wrap_u64]; omega
    rw [hw]
    by_cases hq : n / 10 = 0
    · have q1 : r1 = 0 ∧ r2 = 0 := by omega
      rw [if_pos (by simp [q1.1, q1.2])]
      have hd : (if n = 0 then ([48] : List Int) else (dg (f + 1 + 1) n).map (48 + ·)) = [48 + n % 10] := by
        by_cases hn : n = 0
        · rw [if_pos hn, hn]; rfl
        · rw [if_neg hn]
          rw [dg, if_neg hn, hq, dg_zero]
          rfl
      rw [hd]
      cases neg
      · rw [if_neg (by decide), Reverse_is k _ (by simp; omega) (by simp; omega), Option.bind_some]
        simp
      · rw [if_pos rfl, if_pos (by simp; omega), Reverse_is k _ (by simp; omega) (by simp; omega), Option.bind_some]
        simp
    · rw [if_neg (by rw [q3.1, q3.2]; simp; omega), q3.1, q3.2]
      rw [Int.pow_succ] at h1
      have := ih (n / 10) (by omega) (by omega) (by omega) (out ++ [48 + n % 10]) k (by simp; omega) (by omega)
      rw [this, if_neg hq, if_neg (show ¬ n = 0 by omega)]
      rw [show dg (f + 1 + 1) n = n % 10 :: dg (f + 1) (n / 10) from by conv => lhs; unfold dg; rw [if_neg (show ¬ n = 0 by omega)]]
      simp
theorem Print_is (k : Nat) (hk : 540 ≤ k) {h l : Int} (h1 : W64 h) (h2 : W64 l) : wide_Print.f k h l = some (strOfNums (txt (decide (sval h l < 0)) (D (absI (sval h l))))) := by
  have fb := absI_bound (sval_fits h1 h2)
  unfold wide_Print.f
  rw [split_abs h1 h2, Option.bind_some]
  simp only
  rw [Print_l0 _ 38 (absI (sval h l)) fb.1 (Int.lt_of_le_of_lt fb.2 (by decide)) (by omega) [] k (by simp) (by omega)]
  congr 2
  unfold txt D
  by_cases hz : absI (sval h l) = 0
  · rw [if_pos hz, hz, if_pos (show dg 39 0 = [] from rfl)]
    by_cases hn : sval h l < 0 <;> simp [hn]
  · have hne : dg 39 (absI (sval h l)) ≠ [] := by simp [dg, hz]
    rw [if_neg hz, if_neg hne]
    by_cases hn : sval h l < 0 <;> simp [hn]

/- the number of a text -/
def pv (v : Int) (bs : List Int) : Int := bs.foldl (fun v b => v * 10 + (b - 48)) v
def AllD (bs : List Int) : Prop := ∀ b ∈ bs, 48 ≤ b ∧ b ≤ 57
instance (bs : List Int) : Decidable (AllD bs) := inferInstanceAs (Decidable (∀ b ∈ bs, _))
def St (e h l v : Int) : Prop := (e = 0 ∧ fits v ∧ h = hiS v ∧ l = loS v) ∨ (e = 10 ∧ ¬ fits v)
theorem pv_mono : ∀ {bs : List Int} {v : Int}, AllD bs → 0 ≤ v → v ≤ pv v bs
  | [], v, _, _ => Int.le_refl _
  | b :: r, v, h, hv => by
    have hb := h b List.mem_cons_self
    have := pv_mono (bs := r) (v := v * 10 + (b - 48)) (fun x hx => h x (List.mem_cons_of_mem _ hx)) (by omega)
    show v ≤ pv (v * 10 + (b - 48)) r
    omega
theorem Parse_l0 (bs : List Int) (hlen : bs.length < 4611686018427387904) (hbs : ∀ b ∈ bs, 0 ≤ b ∧ b < 256) : ∀ (rest pre : List Int), bs = pre ++ rest → ∀ (k : Nat) (e h l v : Int), 0 ≤ v → St e h l v → 2 * rest.length + 5 ≤ k →
    wide_Parse.l0 k e bs (bs.length : Int) (pre.length : Int) h l = some (if AllD rest then ans (pv v rest) else (0, 0, 17)) := by
  intro rest
  induction rest with
  | nil =>
    intro pre hpre k e h l v hv hst hk
    obtain ⟨k, rfl⟩ : ∃ q, k = q + 1 := ⟨k - 1, by omega⟩
    have : bs.length = pre.length := by rw [hpre]; simp
    simp only [wide_Parse.l0]
    rw [if_neg (by omega), if_pos (show AllD [] from fun b hb => absurd hb (by simp))]
    show _ = some (ans v)
    rcases hst with ⟨rfl, hf, rfl, rfl⟩ | ⟨rfl, hf⟩
    · rw [if_pos rfl, ans_pos hf]
    · rw [if_neg (by decide), ans_neg hf]
  | cons b r ih =>
    intro pre hpre k e h l v hv hst hk
    simp only [List.length_cons] at hk
    obtain ⟨k, rfl⟩ : ∃ q, k = q + 2 := ⟨k - 2, by omega⟩
    have hl : bs.length = pre.length + (r.length + 1) := by rw [hpre]; simp
    have hrd : rd bs (pre.length : Int) = b := by rw [hpre]; simp [rd]
    have hb := hbs b (by rw [hpre]; simp)
    simp only [wide_Parse.l0]
    rw [if_pos (by omega), if_pos (by omega), if_pos (by omega), hrd]
    have hbad : ¬ (48 ≤ b ∧ b ≤ 57) → ¬ AllD (b :: r) := fun hn ha => hn (ha b List.mem_cons_self)
    by_cases c1 : b < 48
    · rw [if_pos c1, if_neg (hbad (by omega))]
      simp only [wide_Parse.j2]
      rfl
    · rw [if_neg c1]
      by_cases c2 : b > 57
      · rw [if_neg (hbad (by omega))]
        simp only [wide_Parse.j2, c2, decide_true]
        rfl
      · have c3 : decide (b > 57) = false := decide_eq_false c2
        rw [c3]
        simp only [wide_Parse.j2]
        rw [if_neg (by decide)]
        have w1 : wrap64 ((pre.length : Int) + 1) = ((pre ++ [b]).length : Int) := by unfold wrap64; simp only [List.length_append, List.length_cons, List.length_nil]; omega
        have hp' : bs = (pre ++ [b]) ++ r := by rw [hpre]; simp
        have hall : AllD (b :: r) ↔ AllD r := by
          constructor
          · intro h x hx; exact h x (List.mem_cons_of_mem _ hx)
          · intro h x hx
            rcases List.mem_cons.1 hx with rfl | hx
            · omega
            · exact h x hx
        have fin : ∀ e' h' l', St e' h' l' (v * 10 + (b - 48)) → wide_Parse.l0 k e' bs (bs.length : Int) (wrap64 ((pre.length : Int) + 1)) h' l' = some (if AllD (b :: r) then ans (pv v (b :: r)) else (0, 0, 17)) := by
          intro e' h' l' hs
          rw [w1, ih (pre ++ [b]) hp' k e' h' l' (v * 10 + (b - 48)) (by omega) hs (by omega)]
          by_cases ha : AllD r
          · rw [if_pos ha, if_pos (hall.2 ha)]; rfl
          · rw [if_neg ha, if_neg (fun h => ha (hall.1 h))]
        rcases hst with ⟨rfl, hf, rfl, rfl⟩ | ⟨rfl, hf⟩
        · rw [if_pos rfl, Of_is (by decide), Option.bind_some]
          simp only
          rw [Mul_is k (by omega) (hiS_W _) (loS_W _) (hiS_W _) (loS_W _), Option.bind_some, sval_back hf, sval_back (show fits 10 by decide)]
          by_cases f1 : fits (v * 10)
          · rw [ans_pos f1, if_pos rfl, Of_is (show I64 ((b - 48) % 256) by unfold I64; omega), Option.bind_some]
            simp only
            rw [Add_is (hiS_W _) (loS_W _) (hiS_W _) (loS_W _), Option.bind_some, sval_back f1, sval_back (show fits ((b - 48) % 256) by unfold fits; omega), show (b - 48) % 256 = b - 48 from by omega]
            apply fin
            by_cases f2 : fits (v * 10 + (b - 48))
            · rw [ans_pos f2]; exact .inl ⟨rfl, f2, rfl, rfl⟩
            · rw [ans_neg f2]; exact .inr ⟨rfl, f2⟩
          · rw [ans_neg f1, if_neg (by decide)]
            apply fin
            refine .inr ⟨rfl, fun f2 => f1 ?_⟩
            unfold fits at *
            omega
        · rw [if_neg (by decide)]
          apply fin
          refine .inr ⟨rfl, fun f2 => hf ?_⟩
          unfold fits at *
          omega
/- a text that stands for a number -/
def Form (bs : List Int) : Prop := bs ≠ [] ∧ ¬ (1 < bs.length ∧ rd bs 0 = 48) ∧ AllD bs
instance (bs : List Int) : Decidable (Form bs) := inferInstanceAs (Decidable (_ ∧ _))
theorem bytes_range (s : ByteArray) : ∀ b ∈ bytesOf s, 0 ≤ b ∧ b < 256 := by
  intro b hb
  unfold bytesOf at hb
  simp only [List.mem_map] at hb
  obtain ⟨x, _, rfl⟩ := hb
  have := x.toNat_lt
  omega
theorem Parse_is (k : Nat) (s : ByteArray) (hs : s.size ≤ 140737488355328) (hk : 2 * s.size + 6 ≤ k) : wide_Parse.f k s = some (if Form (bytesOf s) then ans (pv 0 (bytesOf s)) else (0, 0, 17)) := by
  obtain ⟨k, rfl⟩ : ∃ q, k = q + 1 := ⟨k - 1, by omega⟩
  have hl := bytes_len s
  have main : ¬ (1 < (bytesOf s).length ∧ rd (bytesOf s) 0 = 48) → bytesOf s ≠ [] → wide_Parse.j0 (k + 1) s false = some (if Form (bytesOf s) then ans (pv 0 (bytesOf s)) else (0, 0, 17)) := by
    intro h1 h2
    simp only [wide_Parse.j0]
    rw [if_neg (by decide), if_pos (by omega), Option.bind_some]
    have hp := Parse_l0 (bytesOf s) (by omega) (bytes_range s) (bytesOf s) [] rfl k 0 0 0 0 (by omega) (.inl ⟨rfl, by decide, by decide, by decide⟩) (by omega)
    rw [show (([] : List Int).length : Int) = 0 from rfl] at hp
    rw [hp]
    by_cases ha : AllD (bytesOf s)
    · rw [if_pos ha, if_pos ⟨h2, h1, ha⟩]
    · rw [if_neg ha, if_neg (fun h => ha h.2.2)]
  have bad : ¬ Form (bytesOf s) → wide_Parse.j0 (k + 1) s true = some (if Form (bytesOf s) then ans (pv 0 (bytesOf s)) else (0, 0, 17)) := by
    intro h
    simp only [wide_Parse.j0, if_true]
    rw [if_neg h]
  have hempty : s.toList = [] ↔ bytesOf s = [] := by
    rw [ByteArray.toList_eq]
    unfold bytesOf
    simp
  unfold wide_Parse.f
  by_cases he : s.toList = []
  · rw [if_pos he]
    exact bad (fun h => h.1 (hempty.1 he))
  · rw [if_neg he]
    have hne : bytesOf s ≠ [] := fun h => he (hempty.2 h)
    have hpos : 0 < s.size := by rw [← hl]; exact List.length_pos_iff.2 hne
    by_cases h1 : (s.size : Int) > 1
    · rw [if_pos h1, if_pos (by omega), ← rd_bytes]
      by_cases h2 : rd (bytesOf s) 0 = 48
      · rw [show (rd (bytesOf s) 0 == 48) = true from by rw [h2]; rfl]
        exact bad (fun h => h.2.1 ⟨by omega, h2⟩)
      · rw [show (rd (bytesOf s) 0 == 48) = false from by simp [h2]]
        exact main (fun h => h2 h.2) hne
    · rw [if_neg h1]
      exact main (fun h => by omega) hne
/- a printed number is read back -/
theorem pv_append (a b : List Int) (v : Int) : pv v (a ++ b) = pv (pv v a) b := by unfold pv; rw [List.foldl_append]
theorem pv_rev : ∀ (ds : List Int), pv 0 ((ds.map (48 + ·)).reverse) = val ds
  | [] => rfl
  | d :: r => by
    rw [List.map_cons, List.reverse_cons, pv_append, pv_rev r]
    show val r * 10 + (48 + d - 48) = d + 10 * val r
    omega
theorem txt_form {ds : List Int} (h : Can ds) : Form (txt false ds) ∧ pv 0 (txt false ds) = val ds := by
  unfold txt
  rw [if_neg (by decide), List.nil_append]
  by_cases he : ds = []
  · subst he
    rw [if_pos rfl]
    decide
  · rw [if_neg he]
    refine ⟨⟨by simpa using he, ?_, ?_⟩, pv_rev ds⟩
    · rintro ⟨h1, h2⟩
      have top : ∀ {ds : List Int}, Can ds → ds ≠ [] → ∃ t d, (ds.map (48 + ·)).reverse = (48 + d) :: t ∧ 0 < d := by
        intro ds
        induction ds with
        | nil => intro _ h; exact absurd rfl h
        | cons d r ih =>
          intro hc _
          by_cases hr : r = []
          · subst hr
            exact ⟨[], d, rfl, by have := hc.1; have := hc.2.1 rfl; omega⟩
          · obtain ⟨t, d', h1, h2⟩ := ih hc.2.2 hr
            rw [List.map_cons, List.reverse_cons, h1]
            exact ⟨t ++ [48 + d], d', rfl, h2⟩
      obtain ⟨t, d, e, hd⟩ := top h he
      rw [e] at h2
      have : rd ((48 + d) :: t) 0 = 48 + d := rfl
      omega
    · intro b hb
      simp only [List.mem_reverse, List.mem_map] at hb
      obtain ⟨x, hx, rfl⟩ := hb
      have := Can_dg h x hx
      omega
end Go.Proofs.Ytjnaebcdidilgaa.Q
