/- Chapter 11 (code): the library's sorting, compacting, laid at this program; over the abstract machine. No condition. -/
import Derived.Test.YtckijackbldkhaaProg
import Derived.Test.YtckijackbldkhaaSxY
import Derived.Shelf.Slices.In.SortAlone
import Derived.Shelf.Slices.In.SortNone
import Derived.Shelf.Slices.CompactI
import Derived.Lib.RowBridge
namespace Go.Proofs.Ytckijackbldkhaa.Ch
open Go Go.Proofs Go.Shelf Go.Sort Go.Proofs.Ytckijackbldkhaa.Sx
set_option linter.unusedVariables false
set_option linter.unusedSimpArgs false

def ren : Ren := ⟨fun | 125 => 35 | 128 => 57 | 129 => 58 | 189 => 20 | 215 => 69 | 216 => 54 | 257 => 34 | 294 => 48 | 295 => 49 | 296 => 50 | 297 => 51 | 298 => 52 | 299 => 53 | 300 => 55 | 301 => 56 | 328 => 64 | 329 => 65 | 330 => 66 | 331 => 67 | 332 => 68 | 343 => 74 | n => n, fun | 0 => 0 | 3 => 3 | 4 => 4 | 5 => 5 | 9 => 9 | 28 => 23 | 46 => 98 | 51 => 74 | 53 => 120 | 131 => 116 | 182 => 110 | 183 => 111 | 218 => 128 | 222 => 132 | 228 => 137 | 229 => 138 | n => n, fun | n => n⟩
theorem lays189 : Lays.n189 Try.prog ren where
  mixed := by kernel_rfl
  f125 := Try.func35.trans (congrArg some (by kernel_rfl))
  f128 := Try.func57.trans (congrArg some (by kernel_rfl))
  f129 := Try.func58.trans (congrArg some (by kernel_rfl))
  f189 := Try.func20.trans (congrArg some (by kernel_rfl))
  f215 := Try.func69.trans (congrArg some (by kernel_rfl))
  f216 := Try.func54.trans (congrArg some (by kernel_rfl))
  f257 := Try.func34.trans (congrArg some (by kernel_rfl))
  f294 := Try.func48.trans (congrArg some (by kernel_rfl))
  f295 := Try.func49.trans (congrArg some (by kernel_rfl))
  f296 := Try.func50.trans (congrArg some (by kernel_rfl))
  f297 := Try.func51.trans (congrArg some (by kernel_rfl))
  f298 := Try.func52.trans (congrArg some (by kernel_rfl))
  f299 := Try.func53.trans (congrArg some (by kernel_rfl))
  f300 := Try.func55.trans (congrArg some (by kernel_rfl))
  f301 := Try.func56.trans (congrArg some (by kernel_rfl))
  f328 := Try.func64.trans (congrArg some (by kernel_rfl))
  f329 := Try.func65.trans (congrArg some (by kernel_rfl))
  f330 := Try.func66.trans (congrArg some (by kernel_rfl))
  f331 := Try.func67.trans (congrArg some (by kernel_rfl))
  f332 := Try.func68.trans (congrArg some (by kernel_rfl))
  f343 := Try.func74.trans (congrArg some (by kernel_rfl))
  t0 := Try.underlying0
  a0 := Try.isAgg0
  z0 := Try.sizeOf0
  v0 := Try.zeroValue0
  t3 := Try.underlying3
  a3 := Try.isAgg3
  z3 := Try.sizeOf3
  v3 := Try.zeroValue3
  t4 := Try.underlying4
  a4 := Try.isAgg4
  z4 := Try.sizeOf4
  v4 := Try.zeroValue4
  t5 := Try.underlying5
  a5 := Try.isAgg5
  z5 := Try.sizeOf5
  v5 := Try.zeroValue5
  t9 := Try.underlying9
  a9 := Try.isAgg9
  z9 := Try.sizeOf9
  v9 := Try.zeroValue9
  t28 := Try.underlying23
  a28 := Try.isAgg23
  z28 := Try.sizeOf23
  v28 := Try.zeroValue23
  t46 := Try.underlying98
  a46 := Try.isAgg98
  z46 := Try.sizeOf98
  v46 := Try.zeroValue98
  t51 := Try.underlying74
  a51 := Try.isAgg74
  z51 := Try.sizeOf74
  v51 := Try.zeroValue74
  t53 := Try.underlying120
  a53 := Try.isAgg120
  z53 := Try.sizeOf120
  v53 := Try.zeroValue120
  t131 := Try.underlying116
  a131 := Try.isAgg116
  z131 := Try.sizeOf116
  v131 := Try.zeroValue116
  t182 := Try.underlying110
  a182 := Try.isAgg110
  z182 := Try.sizeOf110
  v182 := Try.zeroValue110
  t183 := Try.underlying111
  a183 := Try.isAgg111
  z183 := Try.sizeOf111
  v183 := Try.zeroValue111
  t218 := Try.underlying128
  a218 := Try.isAgg128
  z218 := Try.sizeOf128
  v218 := Try.zeroValue128
  t222 := Try.underlying132
  a222 := Try.isAgg132
  z222 := Try.sizeOf132
  v222 := Try.zeroValue132
  t228 := Try.underlying137
  a228 := Try.isAgg137
  z228 := Try.sizeOf137
  v228 := Try.zeroValue137
  t229 := Try.underlying138
  a229 := Try.isAgg138
  z229 := Try.sizeOf138
  v229 := Try.zeroValue138
def ren2 : Ren := ⟨fun | 20 => 21 | n => n, fun | 0 => 0 | 3 => 3 | 4 => 4 | 22 => 23 | n => n, fun | n => n⟩
theorem lays2_20 : Lays2.n20 Try.prog ren2 where
  mixed := by kernel_rfl
  f20 := Try.func21.trans (congrArg some (by kernel_rfl))
  t0 := Try.underlying0
  a0 := Try.isAgg0
  z0 := Try.sizeOf0
  v0 := Try.zeroValue0
  t3 := Try.underlying3
  a3 := Try.isAgg3
  z3 := Try.sizeOf3
  v3 := Try.zeroValue3
  t4 := Try.underlying4
  a4 := Try.isAgg4
  z4 := Try.sizeOf4
  v4 := Try.zeroValue4
  t22 := Try.underlying23
  a22 := Try.isAgg23
  z22 := Try.sizeOf23
  v22 := Try.zeroValue23
  i3 := by kernel_rfl
/-! ### what works in place -/
theorem putRow_at (w : World) (g off : Nat) (ys : List Int) {vs : Array Value} {t : TypeId} {fr : Nat × Nat} (hg : w.heap[g]? = some (.cells vs t fr)) : (putRow (Value.int .i64) w g off ys.toArray).heap[g]? = some (.cells (putCells (Value.int .i64) off ys.toArray vs) t fr) := by
  unfold putRow mapBlock
  simp only [Array.getElem?_modify, if_pos, hg, Option.map_some]
  rfl
theorem putRow_not (w : World) (g k off : Nat) (ys : List Int) (hk : k ≠ g) : (putRow (Value.int .i64) w g off ys.toArray).heap[k]? = w.heap[k]? := by
  unfold putRow mapBlock
  simp only [Array.getElem?_modify]
  rw [if_neg (fun e => hk e.symm)]
theorem putCells_get (off : Nat) (ys : List Int) (vs : Array Value) (i : Nat) : (putCells (Value.int .i64) off ys.toArray vs)[i]? = if off ≤ i ∧ i < off + ys.length then (if i < vs.size then some (.int .i64 (ys.getD (i - off) 0)) else none) else vs[i]? := by
  unfold putCells
  rw [Array.getElem?_mapIdx]
  by_cases hc : off ≤ i ∧ i < off + ys.length
  · rw [if_pos hc]
    by_cases hi : i < vs.size
    · rw [if_pos hi, Array.getElem?_eq_getElem hi]
      simp only [Option.map_some, List.size_toArray]
      rw [if_pos hc]
      have : i - off < ys.length := by omega
      rw [getElem!_pos _ _ (by simpa using this), List.getElem_toArray, getD_at this]
    · rw [if_neg hi, Array.getElem?_eq_none (by omega)]; rfl
  · rw [if_neg hc]
    cases hv : vs[i]? with
    | none => rfl
    | some v =>
      simp only [Option.map_some, List.size_toArray]
      rw [if_neg hc]
def inPl (xs : List Int) (a n : Nat) (ys : List Int) : List Int := xs.take a ++ ys ++ xs.drop (a + n)
theorem inPl_len {xs : List Int} {a n : Nat} {ys : List Int} (h : a + n ≤ xs.length) (hy : ys.length = n) : (inPl xs a n ys).length = xs.length := by
  unfold inPl
  simp only [List.length_append, List.length_take, List.length_drop]
  omega
theorem inPl_get {xs : List Int} {a n : Nat} {ys : List Int} (h : a + n ≤ xs.length) (hy : ys.length = n) (i : Nat) : (inPl xs a n ys)[i]? = if a ≤ i ∧ i < a + n then ys[i - a]? else xs[i]? := by
  unfold inPl
  have ht : (xs.take a).length = a := by rw [List.length_take]; omega
  rcases Nat.lt_or_ge i a with h1 | h1
  · rw [if_neg (by omega), List.append_assoc, List.getElem?_append_left (by omega), List.getElem?_take, if_pos h1]
  · rcases Nat.lt_or_ge i (a + n) with h2 | h2
    · rw [if_pos ⟨h1, h2⟩, List.append_assoc, List.getElem?_append_right (by omega), ht, List.getElem?_append_left (by omega)]
    · rw [if_neg (by omega), List.getElem?_append_right (by rw [List.length_append]; omega), List.length_append, ht, hy, List.getElem?_drop]
      congr 1; omega
theorem rep_int {π : Pers} {x : Int} {l : List Value} {i : Nat} : Rep π tI x (seg l i 1) ↔ l[i]? = some (.int .i64 x) := by
  unfold seg
  show (l.drop i).take 1 = [.int .i64 x] ↔ _
  constructor
  · intro h
    have := congrArg (fun z => z[0]?) h
    simp only [List.getElem?_take, List.getElem?_drop] at this
    simpa using this
  · intro h
    obtain ⟨hi, he⟩ := List.getElem?_eq_some_iff.1 h
    rw [List.drop_eq_getElem_cons hi, he]; rfl
theorem grow_nil (w : World) : grow w #[] = w := by unfold grow; rw [Array.append_empty]
/-- A function of the library that works on a slice of numbers in place. -/
theorem inplace_spec {P : Program} {f : FuncId} {e : TypeId} {xs : List Int} {a n : Nat} (han : a + n ≤ xs.length) {ys : List Int} (hy : ys.length = n) (resV : Option Addr → Nat → Value) {r : SV} {Q : SV → List HB → Prop}
    (hk0 : n = 0 → ∀ (w : World) (A : Option Addr) (cap : Nat), Calls P f #[.slice A 0 cap] w fun x w' => x = .returned (resV A cap) ∧ w' = w)
    (hk : ∀ (w : World) (blk off cap : Nat), Holds (Value.int .i64) w blk off (vw xs a n).toArray → blk < w.heap.size → n ≤ cap → n ≤ maxLen → Calls P f #[.slice (some ⟨blk, off, none⟩) n cap] w fun x w' => x = .returned (resV (some ⟨blk, off, none⟩) cap) ∧ ∃ q os, w' = grow (putRow (Value.int .i64) (Sort.ahead w q) blk off ys.toArray) os)
    (hr0 : n = 0 → ∀ π ρ A c, DenC π ρ (.view tI 0 a 0) (.slice A 0 c) → DenS π ρ r (resV A c))
    (hr : ∀ π ρ g o m c, ρ 0 = some (g, o, m) → n ≤ c → c ≤ maxLen → o + (a + c) * 1 ≤ m.1 → DenS π ρ r (resV (some ⟨g, o + a * 1, none⟩) c))
    (hq : Q r [.row e tI (inPl xs a n ys)]) : FSpec P f [.c (.view tI 0 a n)] [.row e tI xs] Q := by
  intro π ρ w vs hs ha
  match vs, ha with
  | [v], ha =>
    have hv : DenC π ρ (.view tI 0 a n) v := ha.1
    by_cases hn : n = 0
    · subst hn
      have hy0 : ys = [] := List.length_eq_zero_iff.1 hy
      have e0 : inPl xs a 0 ys = xs := by unfold inPl; rw [hy0, List.append_nil, Nat.add_zero, List.take_append_drop]
      obtain ⟨A, c, rfl⟩ : ∃ A c, v = .slice A 0 c := by
        rcases hv with ⟨_, A, h⟩ | ⟨g, o, m, c, _, _, _, _, h⟩
        · exact ⟨A, 0, h⟩
        · exact ⟨_, c, h⟩
      refine (hk0 rfl w A c).mono ?_
      rintro _ w' ⟨rfl, rfl⟩
      exact ⟨_, π, ρ, r, _, rfl, hr0 rfl π ρ A c hv, hs, Step.refl _ _ _ _ _, by rw [← e0]; exact hq⟩
    · rcases hv with ⟨h0, _⟩ | ⟨g, o, m, c, h1, h2, h3, h4, rfl⟩
      · exact absurd h0 hn
      have hit := hs.items 0 _ rfl
      rcases hit with ⟨h5, _⟩ | ⟨g', o', us, h5, h6, h7, h8, h9⟩
      · rw [h5] at h1; cases h1
      rw [h5] at h1
      cases h1
      have hsz : tI.sz = 1 := rfl
      have hcell : ∀ j x, xs[j]? = some x → us[o + j]? = some (.int .i64 x) := fun j x hj => by
        have := rep_int.1 (h9 j x hj)
        rw [hsz, Nat.mul_one] at this
        simpa using this
      have hus : o + xs.length ≤ us.size := by rw [hsz, Nat.mul_one] at h7; exact h7
      have hlt : g < w.heap.size := (Array.getElem?_eq_some_iff.1 h6).1
      have hvl : (vw xs a n).length = n := vw_len han
      have hH : Holds (Value.int .i64) w g (o + a * 1) (vw xs a n).toArray := by
        intro j hj
        have hj' : j < n := by simpa [hvl] using hj
        have hxj : xs[a + j]? = some ((vw xs a n)[j]'(by omega)) := vw_get (List.getElem?_eq_getElem (by omega))
        refine ⟨?_, frozen_of_row w g _ us e h6⟩
        rw [cell_of_row w g _ us e (0, 0) h6, getElem!_pos ((vw xs a n).toArray) j hj, List.getElem_toArray, Nat.mul_one, Nat.add_assoc]
        exact hcell _ _ hxj
      refine (hk w g (o + a * 1) c hH hlt h2 (Nat.le_trans h2 h3)).mono ?_
      rintro _ w' ⟨rfl, q, os, rfl⟩
      have hh : ∀ k, k < w.heap.size → (grow (putRow (Value.int .i64) (Sort.ahead w q) g (o + a * 1) ys.toArray) os).heap[k]? = (putRow (Value.int .i64) (Sort.ahead w q) g (o + a * 1) ys.toArray).heap[k]? := fun k hk => by
        show ((putRow (Value.int .i64) (Sort.ahead w q) g (o + a * 1) ys.toArray).heap ++ os)[k]? = _
        rw [Array.getElem?_append_left (by rw [size_putRow]; exact hk)]
      have hsize : w.heap.size ≤ (grow (putRow (Value.int .i64) (Sort.ahead w q) g (o + a * 1) ys.toArray) os).heap.size := by
        show _ ≤ ((putRow (Value.int .i64) (Sort.ahead w q) g (o + a * 1) ys.toArray).heap ++ os).size
        rw [Array.size_append, size_putRow]; exact Nat.le_add_right _ _
      have hw : ∀ k, k < w.heap.size → ¬ own (ρ 0) k → (grow (putRow (Value.int .i64) (Sort.ahead w q) g (o + a * 1) ys.toArray) os).heap[k]? = w.heap[k]? := fun k hk hne => by
        rw [hh k hk, putRow_not _ _ _ _ _ (fun e => hne (by rw [e]; exact own_main h5))]; rfl
      have hg' : (grow (putRow (Value.int .i64) (Sort.ahead w q) g (o + a * 1) ys.toArray) os).heap[g]? = some (.cells (putCells (Value.int .i64) (o + a * 1) ys.toArray us) e (0, 0)) := by
        rw [hh g hlt]; exact putRow_at _ _ _ _ h6
      have hps : (putCells (Value.int .i64) (o + a * 1) ys.toArray us).size = us.size := by unfold putCells; rw [Array.size_mapIdx]
      have hput : HSat π ρ [.row e tI (inPl xs a n ys)] (grow (putRow (Value.int .i64) (Sort.ahead w q) g (o + a * 1) ys.toArray) os) := by
        refine hsat_put hs 0 _ hsize hw (by simp) (.inr ⟨g, o, _, by rw [hps]; exact h5, hg', by rw [inPl_len han hy, hps]; exact h7, by rw [inPl_len han hy]; exact h8, fun i x hi => rep_int.2 ?_⟩)
        rw [hsz, Array.getElem?_toList, putCells_get]
        have e1 : o + i * 1 = o + i := by omega
        have e2 : o + a * 1 = o + a := by omega
        rw [e1, e2]
        rw [inPl_get han hy] at hi
        by_cases hc : a ≤ i ∧ i < a + n
        · rw [if_pos hc] at hi
          rw [if_pos (by omega), if_pos (by omega), List.getD_eq_getElem?_getD, show o + i - (o + a) = i - a by omega, hi]; rfl
        · rw [if_neg hc] at hi
          rw [if_neg (by omega)]
          exact hcell i x hi
      refine ⟨_, π, ρ, r, _, rfl, hr π ρ g o (us.size, []) c h5 h2 h3 h4, hput, ?_, hq⟩
      exact step_put hs 0 (by simp) (by simp) (keep_set 0 _ (fun x κ hh hκ => by simp at hh; subst hh; exact hκ)) rfl rfl rfl hsize hw
def sortV (l : List Int) : List Int := l.mergeSort fun x y => decide (x ≤ y)
noncomputable def sort_t : Tr := trH [.cell (.view tI 0)] [.row 3 tI] fun x y Q => (x.1.1 + x.1.2 ≤ y.1.length ∧ y.1.length ≤ 1000000) ∧ Q (.tup []) [.row 3 tI (inPl y.1 x.1.1 x.1.2 (sortV (vw y.1 x.1.1 x.1.2)))]
noncomputable def compV (l : List Int) : List Int := Lib.compact l
noncomputable def comp_t : Tr := trH [.cell (.view tI 0)] [.row 3 tI] fun x y Q => (x.1.1 + x.1.2 ≤ y.1.length ∧ y.1.length ≤ 1000000) ∧ Q (.p (.c (.view tI 0 x.1.1 (compV (vw y.1 x.1.1 x.1.2)).length))) [.row 3 tI (inPl y.1 x.1.1 x.1.2 (compV (vw y.1 x.1.1 x.1.2) ++ List.replicate (x.1.2 - (compV (vw y.1 x.1.1 x.1.2)).length) 0))]
theorem sort_ok : ∀ args h Q, sort_t args h Q → FSpec Try.prog 20 args h Q := trH_ok fun (((a, n), _) : (Nat × Nat) × Unit) ((xs, _) : List Int × Unit) Q ⟨⟨han, hl⟩, h⟩ => by
  dsimp only at han hl h
  have hvl : (vw xs a n).length = n := vw_len han
  refine inplace_spec (e := 3) han (ys := sortV (vw xs a n)) (by unfold sortV; rw [List.length_mergeSort, hvl]) (fun _ _ => .tuple #[]) ?_ ?_ ?_ ?_ h
  · intro _ w A cap
    exact Any.slices_Sort_int_none lays189 A cap w
  · intro w blk off cap hH hblk _ _
    have := calls_of_every_depth fun D => AnyS.slices_Sort_int_in lays189 D blk off cap (vw xs a n) w hH hblk (by omega)
    rw [hvl] at this
    refine this.mono ?_
    rintro _ w' ⟨rfl, q, os, rfl⟩
    exact ⟨rfl, q, os, rfl⟩
  · intro _ π ρ A c _; exact ⟨[], rfl, trivial⟩
  · intro π ρ g o m c _ _ _ _; exact ⟨[], rfl, trivial⟩
theorem comp_ok : ∀ args h Q, comp_t args h Q → FSpec Try.prog 21 args h Q := trH_ok fun (((a, n), _) : (Nat × Nat) × Unit) ((xs, _) : List Int × Unit) Q ⟨⟨han, hl⟩, h⟩ => by
  dsimp only at han hl h
  have hvl : (vw xs a n).length = n := vw_len han
  have hcl : (compV (vw xs a n)).length ≤ n := by have := Lib.compact_length_le (vw xs a n); rw [hvl] at this; exact this
  refine inplace_spec (e := 3) han (ys := compV (vw xs a n) ++ List.replicate (n - (compV (vw xs a n)).length) 0) (by rw [List.length_append, List.length_replicate]; omega) (fun A c => .slice A (compV (vw xs a n)).length c) ?_ ?_ ?_ ?_ h
  · intro h0 w A cap
    have : (compV (vw xs a n)).length = 0 := by omega
    rw [this]
    exact Any.slices_Compact_int_empty lays2_20 A cap w
  · intro w blk off cap hH hblk hcap _
    have := Any.slices_Compact_int lays2_20 blk off cap (vw xs a n) w hH (by omega) (by omega)
    rw [hvl] at this
    refine this.mono ?_
    rintro _ w' ⟨rfl, q, rfl⟩
    exact ⟨rfl, q, #[], by rw [grow_nil]; rfl⟩
  · intro h0 π ρ A c hd
    have : (compV (vw xs a n)).length = 0 := by omega
    rw [this]
    exact hd
  · intro π ρ g o m c h1 h2 h3 h4
    exact .inr ⟨g, o, m, c, h1, by omega, h3, h4, rfl⟩
end Go.Proofs.Ytckijackbldkhaa.Ch
