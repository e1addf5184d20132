/- Chapter 02 (scan): what is put in ahead of a token, in plain Lean. No condition. -/
import Derived.Test.YtodmofkeglfcaaaS
namespace Go.Proofs.Ytodmofkeglfcaaa.Ch
open Go Go.Proofs Go.Proofs.Ytodmofkeglfcaaa.Sx
set_option linter.unusedVariables false
set_option linter.unusedSimpArgs false

/-- A blank or a tab. -/
def isBl (c : Int) : Prop := c = 32 ∨ c = 9
theorem bl_part {c : Int} (h : isBl c) : partB c = false := by rcases h with rfl | rfl <;> rfl
theorem bl_dig {c : Int} (h : isBl c) : digB c = false := by rcases h with rfl | rfl <;> rfl
theorem op_nobl : ∀ w ∈ opers.map bytesOf, ∀ c ∈ w, c ≠ 32 ∧ c ≠ 9 := by decide +kernel
theorem op_two {b c : Int} (h : isBl c) : anyEq opers (strOf [b, c]) = false := by
  cases hq : anyEq opers (strOf [b, c]) with
  | false => rfl
  | true =>
    have hm := anyEq_mem.1 hq
    have hc : c ∈ bytesOf (strOf [b, c]) := by
      have e : bytesOf (strOf [b, c]) = [((UInt8.ofNat b.toNat).toNat : Int), ((UInt8.ofNat c.toNat).toNat : Int)] := rfl
      rw [e]
      rcases h with rfl | rfl
      · exact List.mem_cons_of_mem _ (List.mem_singleton.2 rfl)
      · exact List.mem_cons_of_mem _ (List.mem_singleton.2 rfl)
    have := op_nobl _ hm c hc
    rcases h with rfl | rfl
    · exact absurd rfl this.1
    · exact absurd rfl this.2
theorem head_app {x q h : List Int} (hx : x ≠ []) : (x ++ q).getD 0 0 = (x ++ h).getD 0 0 := by
  cases x with
  | nil => exact absurd rfl hx
  | cons b x => rfl
theorem getD_app {x q : List Int} {i : Nat} (h : i < x.length) : (x ++ q).getD i 0 = x.getD i 0 := by
  rw [List.getD_eq_getElem?_getD, List.getElem?_append_left h, List.getD_eq_getElem?_getD]
theorem take_app {x q : List Int} {n : Nat} (h : n ≤ x.length) : (x ++ q).take n = x.take n := List.take_append_of_le_length h
theorem getD_end {x q : List Int} : (x ++ q).getD x.length 0 = q.getD 0 0 := by
  rw [List.getD_eq_getElem?_getD, List.getElem?_append_right (Nat.le_refl _), Nat.sub_self, List.getD_eq_getElem?_getD]
/-- A token, what follows it being a blank. -/
theorem tok_app {x q h : List Int} (hx : x ≠ []) {k : Int} {t : List Int} {m : Nat} (e : tokL (x ++ q) = some (k, t, m)) (hm : m ≤ x.length) (hb : isBl (h.getD 0 0)) : tokL (x ++ h) = some (k, t, m) := by
  have hh : h ≠ [] := by rintro rfl; rcases hb with hb | hb <;> cases hb
  have eh := head_app (q := q) (h := h) hx
  unfold tokL at e ⊢
  rw [← eh]
  generalize (x ++ q).getD 0 0 = b at e ⊢
  split
  · rename_i h1
    rw [if_pos h1] at e
    injection e with e; injection e with e1 e; injection e with e2 e3
    have er : runV partB (x ++ h) = m := run_app e3 hm (.inr (.inl (bl_part hb)))
    rw [e3, take_app hm] at e1 e2
    rw [er, take_app hm, e1, e2]
  · rename_i h1
    rw [if_neg h1] at e
    split
    · rename_i h2
      rw [if_pos h2] at e
      have hn : ∀ n, (if b = 48 then 1 else runV digB (x ++ q)) = n → n ≤ x.length → (if b = 48 then 1 else runV digB (x ++ h)) = n := by
        intro n en hn
        by_cases h48 : b = 48
        · rw [if_pos h48] at en ⊢; exact en
        · rw [if_neg h48] at en ⊢; exact run_app en hn (.inr (.inl (bl_dig hb)))
      generalize hN : (if b = 48 then 1 else runV digB (x ++ q)) = n at e hn
      split at e
      · cases e
      · rename_i hc
        injection e with e; injection e with e1 e; injection e with e2 e3
        subst e3
        rw [hn n rfl hm, take_app hm]
        rw [take_app hm] at e2
        rw [if_neg, e1, e2]
        rintro ⟨g1, g2⟩
        refine hc ⟨?_, ?_⟩
        · rcases Nat.lt_or_ge n x.length with g | g
          · rw [List.length_append]; omega
          · obtain rfl : n = x.length := by omega
            rw [getD_end, bl_part hb] at g2; cases g2
        · rcases Nat.lt_or_ge n x.length with g | g
          · rw [getD_app g] at g2 ⊢; exact g2
          · obtain rfl : n = x.length := by omega
            rw [getD_end, bl_part hb] at g2; cases g2
    · rename_i h2
      rw [if_neg h2] at e
      split
      · rename_i h3
        rw [if_pos h3] at e
        cases ht : textV (x ++ q) with
        | none => rw [ht] at e; cases e
        | some y =>
          obtain ⟨t', n⟩ := y
          rw [ht] at e
          injection e with e; injection e with e1 e; injection e with e2 e3
          subst e1 e2 e3
          have : textV (x ++ h) = some (t', n) := by
            unfold textV at ht ⊢
            cases x with
            | nil => exact absurd rfl hx
            | cons b x =>
              rw [List.length_cons] at hm
              exact textL_app x.length (Nat.le_refl _) ht (by omega)
          rw [this]
      · rename_i h3
        rw [if_neg h3] at e
        cases x with
        | nil => exact absurd rfl hx
        | cons b1 x =>
          cases x with
          | nil =>
            cases h with
            | nil => exact absurd rfl hh
            | cons c h =>
              have e2 : ([b1] ++ c :: h).take 2 = [b1, c] := rfl
              have e1 : ([b1] ++ c :: h).take 1 = [b1] := rfl
              have e1' : ([b1] ++ q).take 1 = [b1] := rfl
              rw [e2, e1, op_two (c := c) (show isBl c from hb), if_neg (by simp)]
              split at e
              · injection e with e; injection e with _ e; injection e with _ e
                simp only [List.length_cons, List.length_nil] at hm
                omega
              · rw [e1'] at e
                exact e
          | cons b2 x =>
            have l1 : 2 ≤ (b1 :: b2 :: x ++ h).length := by simp
            have l2 : 2 ≤ (b1 :: b2 :: x ++ q).length := by simp
            have t2 : (b1 :: b2 :: x ++ h).take 2 = (b1 :: b2 :: x ++ q).take 2 := rfl
            have t1 : (b1 :: b2 :: x ++ h).take 1 = (b1 :: b2 :: x ++ q).take 1 := rfl
            rw [t2, t1]
            by_cases hc : anyEq opers (strOf ((b1 :: b2 :: x ++ q).take 2)) = true
            · rw [if_pos ⟨l2, hc⟩] at e
              rw [if_pos ⟨l1, hc⟩]; exact e
            · rw [if_neg (fun h => hc h.2)] at e
              rw [if_neg (fun h => hc h.2)]; exact e
/-- No gap, what follows being a blank. -/
theorem nogap_app {x q h : List Int} (hx : x ≠ []) {nl : Bool} (e : gapL (x ++ q) = some (0, nl)) (hb : isBl (h.getD 0 0)) : gapL (x ++ h) = some (0, false) := by
  have hh : h ≠ [] := by rintro rfl; rcases hb with hb | hb <;> cases hb
  have eh := head_app (q := q) (h := h) hx
  unfold gapL at e ⊢
  rw [← eh]
  cases x with
  | nil => exact absurd rfl hx
  | cons b x =>
    have eb : (b :: x ++ q).getD 0 0 = b := rfl
    rw [eb] at e ⊢
    split
    · rename_i h1; rw [if_pos h1] at e; cases e
    · rename_i h1
      rw [if_neg h1] at e
      split
      · rename_i h2; rw [if_pos h2] at e; cases e
      · rename_i h2
        rw [if_neg h2] at e
        cases x with
        | nil =>
          cases h with
          | nil => exact absurd rfl hh
          | cons c h =>
            have hc : isBl c := hb
            have e2 : ([b] ++ c :: h).take 2 = [b, c] := rfl
            rw [e2, if_neg, if_neg]
            · rintro h; injection h with _ h; injection h with h _; rcases hc with rfl | rfl <;> cases h
            · rintro h; injection h with _ h; injection h with h _; rcases hc with rfl | rfl <;> cases h
        | cons b2 x =>
          have t2 : (b :: b2 :: x ++ h).take 2 = [b, b2] := rfl
          have t2' : (b :: b2 :: x ++ q).take 2 = [b, b2] := rfl
          rw [t2] 
          rw [t2'] at e
          split
          · rename_i h3
            rw [if_pos h3] at e
            injection e with e; injection e with e _
            have : 1 ≤ runV notNl (b :: b2 :: x ++ q) := run_pos (by show notNl b = true; unfold notNl; rw [decide_eq_false h1]; rfl) (by simp)
            omega
          · rename_i h3
            rw [if_neg h3] at e
            split
            · rename_i h4
              rw [if_pos h4] at e
              split at e
              · cases e
              · injection e with e; injection e with e _; omega
            · rfl
/-- A gap, what is put in behind it being a gap within its line. -/
theorem gap_app {x q g : List Int} {n : Nat} {nl : Bool} (e : gapL (x ++ q) = some (n, nl)) (hn : n ≠ 0) (hx : n ≤ x.length) (hg : ∀ c ∈ g, notNl c = true) :
    gapL (x ++ (g ++ q)) = some (n, nl) ∨ (n = x.length ∧ nl = false ∧ gapL (x ++ (g ++ q)) = some (n + g.length, false)) := by
  have hx0 : x ≠ [] := by rintro rfl; simp only [List.length_nil] at hx; omega
  have eh := head_app (q := q) (h := g ++ q) hx0
  unfold gapL at e ⊢
  rw [← eh]
  cases x with
  | nil => exact absurd rfl hx0
  | cons b x =>
    have eb : (b :: x ++ q).getD 0 0 = b := rfl
    rw [eb] at e ⊢
    split
    · rename_i h1; rw [if_pos h1] at e; exact .inl e
    · rename_i h1
      rw [if_neg h1] at e
      split
      · rename_i h2; rw [if_pos h2] at e; exact .inl e
      · rename_i h2
        rw [if_neg h2] at e
        cases x with
        | nil =>
          exfalso
          simp only [List.length_cons, List.length_nil] at hx
          split at e
          · rename_i h3
            injection e with e; injection e with e _
            cases q with
            | nil => cases h3
            | cons c q =>
              have h3 : [b, c] = [47, 47] := h3
              injection h3 with hb1 h3
              injection h3 with hc1 _
              subst hb1 hc1
              have : runV notNl ([47] ++ 47 :: q) = runV notNl q + 2 := rfl
              omega
          · split at e
            · split at e
              · cases e
              · injection e with e; injection e with e _; omega
            · injection e with e; injection e with e _; omega
        | cons b2 x =>
          have t2 : (b :: b2 :: x ++ (g ++ q)).take 2 = [b, b2] := rfl
          have t2' : (b :: b2 :: x ++ q).take 2 = [b, b2] := rfl
          rw [t2]
          rw [t2'] at e
          split
          · rename_i h3
            rw [if_pos h3] at e
            injection e with e; injection e with e1 e2
            subst e2
            rcases Nat.lt_or_ge n (b :: b2 :: x).length with hlt | hge
            · rw [run_app e1 hx (.inl hlt)]; exact .inl rfl
            · have hnx : n = (b :: b2 :: x).length := by omega
              refine .inr ⟨hnx, rfl, ?_⟩
              have key : ∀ (y g q : List Int), runV notNl (y ++ q) = y.length → (∀ c ∈ g, notNl c = true) → runV notNl (y ++ (g ++ q)) = y.length + g.length := by
                intro y
                induction y with
                | nil =>
                  intro g q h1 h2
                  induction g with
                  | nil => simpa using h1
                  | cons c g ih =>
                    have hc := h2 c (by simp)
                    have := ih (fun d hd => h2 d (by simp [hd]))
                    simp only [List.nil_append, List.length_nil, Nat.zero_add] at this ⊢
                    show (List.takeWhile notNl (c :: (g ++ q))).length = _
                    rw [List.takeWhile_cons, if_pos hc, List.length_cons, List.length_cons]
                    unfold runV at this
                    omega
                | cons d y ih =>
                  intro g q h1 h2
                  unfold runV at h1 ⊢
                  rw [List.cons_append, List.takeWhile_cons] at h1 ⊢
                  by_cases hd : notNl d = true
                  · rw [if_pos hd, List.length_cons, List.length_cons] at h1
                    rw [if_pos hd, List.length_cons, List.length_cons]
                    have := ih g q (by unfold runV; omega) h2
                    unfold runV at this
                    omega
                  · rw [if_neg hd] at h1; simp at h1
              rw [hnx] at e1
              rw [key _ g q e1 hg, hnx]
          · rename_i h3
            rw [if_neg h3] at e
            split
            · rename_i h4
              rw [if_pos h4] at e
              left
              have d2 : (b :: b2 :: x ++ (g ++ q)).drop 2 = x ++ (g ++ q) := rfl
              have d2' : (b :: b2 :: x ++ q).drop 2 = x ++ q := rfl
              rw [d2]
              rw [d2'] at e
              cases hc : closeL (x ++ q) with
              | none => rw [hc] at e; cases e
              | some k =>
                rw [hc] at e
                injection e with e; injection e with e1 e2
                subst e1
                simp only [List.length_cons] at hx
                have hk : k + 2 ≤ x.length := by omega
                rw [closeL_app hc hk]
                dsimp only
                rw [take_app (by omega)] at e2 ⊢
                rw [e2]
            · rename_i h4; rw [if_neg h4] at e; injection e with e; injection e with e _; omega
/-- .. all along the way. -/
theorem scan_ins {g q : List Int} (hb : isBl ((g ++ q).getD 0 0)) (hg : ∀ c ∈ g, notNl c = true) {l : List Int} {out : List KT} {l' : List Int} {out' : List KT} (h : Scan l out l' out') : l' = q → ∀ x, l = x ++ q → Scan (x ++ (g ++ q)) out (g ++ q) out' ∨ Scan (x ++ (g ++ q)) out q out' := by
  induction h with
  | refl l out =>
    rintro rfl x hx
    have : x = [] := by
      have := congrArg List.length hx
      rw [List.length_append] at this
      exact List.length_eq_zero_iff.1 (by omega)
    subst this
    exact .inl (.refl _ _)
  | @gap l out l' out' n nl h1 h2 hs ih =>
    rintro rfl x rfl
    obtain ⟨y, hy, hy0⟩ := hs.suffix
    have hnx : n ≤ x.length := by
      have := congrArg List.length hy
      rw [List.length_drop, List.length_append, List.length_append] at this
      have hne := gap_ne h1 h2
      have := gapL_n (len_pos hne) h1
      rw [List.length_append] at this
      omega
    have hd : ∀ z : List Int, (x ++ z).drop n = x.drop n ++ z := fun z => List.drop_append_of_le_length hnx
    rcases gap_app h1 h2 hnx hg with e | ⟨e1, e2, e3⟩
    · have := ih rfl (x.drop n) (hd l')
      rw [← hd] at this
      rcases this with this | this
      · exact .inl (.gap n nl e h2 this)
      · exact .inr (.gap n nl e h2 this)
    · subst e2
      have hdq : (x ++ l').drop n = l' := by rw [hd, e1, List.drop_length, List.nil_append]
      have hyn : y = [] := by
        have := congrArg List.length hy
        rw [hdq, List.length_append] at this
        exact List.length_eq_zero_iff.1 (by omega)
      have ho := hy0 hyn
      refine .inr (.gap (n + g.length) false e3 (by omega) ?_)
      have : (x ++ (g ++ l')).drop (n + g.length) = l' := by
        rw [e1, ← List.append_assoc, show x.length + g.length = (x ++ g).length by rw [List.length_append], List.drop_left]
      rw [this, ho]
      exact .refl _ _
  | @tok l out l' out' nl k t m h0 h1 h2 hs ih =>
    rintro rfl x rfl
    obtain ⟨y, hy, _⟩ := hs.suffix
    have hm := tokL_n (len_pos h0) h2
    have hmx : m ≤ x.length := by
      have := congrArg List.length hy
      rw [List.length_drop, List.length_append, List.length_append] at this
      rw [List.length_append] at hm
      omega
    have hx0 : x ≠ [] := by rintro rfl; simp only [List.length_nil] at hmx; omega
    have hd : ∀ z : List Int, (x ++ z).drop m = x.drop m ++ z := fun z => List.drop_append_of_le_length hmx
    have := ih rfl (x.drop m) (hd l')
    rw [← hd] at this
    have g1 := nogap_app hx0 h1 hb
    have g2 := tok_app hx0 h2 hmx hb
    have ne : x ++ (g ++ l') ≠ [] := by
      intro e; exact hx0 (List.append_eq_nil_iff.1 e).1
    rcases this with this | this
    · exact .inl (.tok false k t m ne g1 g2 this)
    · exact .inr (.tok false k t m ne g1 g2 this)
end Go.Proofs.Ytodmofkeglfcaaa.Ch
