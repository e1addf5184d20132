/- A machine of abstract states over the model, part E: all operations that only read. No condition. -/
import Derived.Test.YtkpepieepdmjpaaSxD
namespace Go.Proofs.Ytkpepieepdmjpaa.Sx
open Go
set_option linter.unusedVariables false
set_option linter.unusedSimpArgs false

def intOp (op : BinOp) (k : IntKind) (a b : Int) : Option (List Prop × CV) :=
  match op with
  | .add => some ([], .int k (k.wrap (a + b)))
  | .sub => some ([], .int k (k.wrap (a - b)))
  | .mul => some ([], .int k (k.wrap (a * b)))
  | .quo => some ([b ≠ 0], .int k (k.wrap (a.tdiv b)))
  | .rem => some ([b ≠ 0], .int k (a.tmod b))
  | .and => some ([], .int k (Go.bits .and k a b))
  | .or => some ([], .int k (Go.bits .or k a b))
  | .xor => some ([], .int k (Go.bits .xor k a b))
  | .andNot => some ([], .int k (Go.bits .andNot k a b))
  | .eql => some ([], .bool (a == b))
  | .neq => some ([], .bool (a != b))
  | .lss => some ([], .bool (decide (a < b)))
  | .leq => some ([], .bool (decide (a ≤ b)))
  | .gtr => some ([], .bool (decide (a > b)))
  | .geq => some ([], .bool (decide (a ≥ b)))
  | .shl => none
  | .shr => none
def shOp (op : BinOp) (k : IntKind) (a b : Int) : Option (List Prop × CV) :=
  match op with
  | .shl => some ([0 ≤ b], .int k (k.wrap (a * 2 ^ (min b.toNat k.bits))))
  | .shr => some ([0 ≤ b], .int k (a.fdiv (2 ^ (min b.toNat k.bits))))
  | _ => none
def strOp (op : BinOp) (a b : ByteArray) : Option (List Prop × CV) :=
  match op with
  | .add => some ([a.size + b.size ≤ maxI], .str (a ++ b))
  | .eql => some ([], .bool (strEq a b))
  | .neq => some ([], .bool (!strEq a b))
  | .lss => some ([], .bool (strLt a b))
  | .leq => some ([], .bool (strLt a b || strEq a b))
  | .gtr => some ([], .bool (!(strLt a b || strEq a b)))
  | .geq => some ([], .bool (!strLt a b))
  | _ => none
def isSh : BinOp → Bool | .shl => true | .shr => true | _ => false
/-- '==' and '!=' of whatever is no number and no string. -/
def eqOp (P : Program) (op : BinOp) (t : TypeId) (x y : PV) : PR :=
  match op, eqV P 9 t x y with
  | .eql, some r => some ([], [], .c (.bool r))
  | .neq, some r => some ([], [], .c (.bool (!r)))
  | _, _ => none
def lift (o : Option (List Prop × CV)) : PR := match o with | some (ob, c) => some (ob, [], .c c) | none => none
def binP (P : Program) (op : BinOp) (t : TypeId) (x y : PV) : PR :=
  match x, y with
  | .c (.int k a), .c (.int k' b) => bif isSh op then lift (shOp op k a b) else bif decide (k = k') then lift (intOp op k a b) else none
  | .c (.str a), .c (.str b) => lift (strOp op a b)
  | .c (.bool a), .c (.bool b) => eqOp P op t x y
  | .c .nilp, .c _ => eqOp P op t x y
  | .c (.ptr _ _), .c .nilp => eqOp P op t x y
  | .c (.rptr _ _ _ _), .c .nilp => eqOp P op t x y
  | .c (.eptr _ _ _ _), .c .nilp => eqOp P op t x y
  | .c .nils, .c .nils => eqOp P op t x y
  | .agg _, .agg _ => bif P.eqGuardType P.depth t then none else eqOp P op t x y
  | _, _ => none
theorem run_eqGuard_c {P : Program} (op : BinOp) (t : TypeId) (x y : Operand) (u v : Value) (w : World) (h : ∀ a b, ¬ (u = .agg a ∧ v = .agg b)) (h' : ¬ (u = .nilIface ∧ v = .nilIface)) : (eqGuard op t x y u v).run P w = .ok () w := by
  unfold eqGuard
  by_cases hop : (!(op matches .eql | .neq)) = true
  · cases op <;> first | rfl | simp at hop
  · cases u <;> cases v <;> first | (exact absurd ⟨rfl, rfl⟩ (h _ _)) | (exact absurd ⟨rfl, rfl⟩ h') | (cases op <;> rfl)
theorem eqOp_ok {P : Program} {π : Pers} {ρ : Env} {op : BinOp} {t : TypeId} {x y : PV} {u v : Value} (hx : DenP π ρ x u) (hy : DenP π ρ y v) {ob fc : List Prop} {r : PV} (h : eqOp P op t x y = some (ob, fc, r)) (hb : op = .eql → binOp .eql t u v = (do pure (.bool (← Op.equal t u v)))) (hb' : op = .neq → binOp .neq t u v = (do pure (.bool (!(← Op.equal t u v))))) :
    allP fc ∧ ∃ z, (∀ w : World, (binOp op t u v).run P w = .ok z w) ∧ DenP π ρ r z := by
  unfold eqOp at h
  split at h
  · rename_i r' hr
    cases h
    have he := fun w => eqV_ok (P := P) w 9 9991 t _ _ _ _ _ hx hy hr
    refine ⟨trivial, .bool r', ?_, rfl⟩
    rw [hb rfl]
    intro w
    simp only [Op.equal, Op.maxDepth, Sem.run_bind]
    rw [show (10000 : Nat) = 9 + 9991 from rfl, he]
    rfl
  · rename_i r' hr
    cases h
    have he := fun w => eqV_ok (P := P) w 9 9991 t _ _ _ _ _ hx hy hr
    refine ⟨trivial, .bool (!r'), ?_, rfl⟩
    rw [hb' rfl]
    intro w
    simp only [Op.equal, Op.maxDepth, Sem.run_bind]
    rw [show (10000 : Nat) = 9 + 9991 from rfl, he]
    rfl
  · cases h
theorem binP_ok {P : Program} {π : Pers} {ρ : Env} {op : BinOp} {t : TypeId} {x y : PV} {u v : Value} (hx : DenP π ρ x u) (hy : DenP π ρ y v) {ob fc : List Prop} {r : PV} (h : binP P op t x y = some (ob, fc, r)) (ho : allP ob) (ox oy : Operand) :
    allP fc ∧ ∃ z, (∀ w : World, (do eqGuard op t ox oy u v; binOp op t u v : Sem Value).run P w = .ok z w) ∧ DenP π ρ r z := by
  unfold binP at h
  split at h
  · rename_i k a k' b
    simp only [DenP, DenC] at hx hy
    subst hx hy
    simp only [Sem.run_bind, (fun w => run_eqGuard_c (P := P) op t ox oy (.int k a) (.int k' b) w (by simp) (by simp)), Result.andThen_ok]
    cases hs : isSh op with
    | true =>
      rw [hs] at h
      cases op <;> simp [isSh] at hs <;> simp only [cond_true, shOp, lift, Option.some.injEq, Prod.mk.injEq] at h <;> obtain ⟨rfl, rfl, rfl⟩ := h <;>
      · have h0 : ¬ b < 0 := by have := ho.1; omega
        refine ⟨trivial, _, ?_, rfl⟩
        simp [binOp, Op.shift, h0]
    | false =>
      rw [hs] at h
      cases hk : decide (k = k') with
      | false => rw [hk] at h; cases h
      | true =>
        rw [hk] at h
        have := of_decide_eq_true hk
        subst this
        cases op <;> simp [isSh] at hs <;> simp only [cond_true, cond_false, intOp, lift, Option.some.injEq, Prod.mk.injEq] at h <;> obtain ⟨rfl, rfl, rfl⟩ := h <;>
        refine ⟨trivial, _, ?_, rfl⟩ <;> first | exact fun _ => rfl | (have h0 : b ≠ 0 := ho.1; simp [binOp, Op.intDiv, h0]; done) | (simp [binOp, Op.intArith, Op.intCmp, intBits_and, intBits_or, intBits_xor, intBits_andNot]; done)
  · rename_i a b
    obtain ⟨hx, hxs⟩ := hx
    obtain ⟨hy, hys⟩ := hy
    subst hx hy
    simp only [Sem.run_bind, (fun w => run_eqGuard_c (P := P) op t ox oy (.string a) (.string b) w (by simp) (by simp)), Result.andThen_ok]
    cases op <;> simp only [strOp, lift, Option.some.injEq, Prod.mk.injEq, reduceCtorEq] at h <;> obtain ⟨rfl, rfl, rfl⟩ := h
    · have h0 : a.size + b.size ≤ maxI := ho.1
      have h1 : ¬ (((a.size + b.size : Nat) : Int) > IntKind.i64.max) := by
        have : IntKind.i64.max = 9223372036854775807 := rfl
        rw [this]; simp only [maxI] at h0; omega
      refine ⟨trivial, .string (a ++ b), ?_, rfl, ?_⟩
      · intro w; simp only [binOp, Op.stringOp, if_neg h1]; rfl
      · rw [ByteArray.size_append]; exact h0
    all_goals exact ⟨trivial, _, fun _ => rfl, rfl⟩
  · rename_i a b
    have hx' := hx
    have hy' := hy
    simp only [DenP, DenC] at hx' hy'
    subst hx' hy'
    simp only [Sem.run_bind, (fun w => run_eqGuard_c (P := P) op t ox oy (.bool a) (.bool b) w (by simp) (by simp)), Result.andThen_ok]
    exact eqOp_ok hx hy h (fun _ => rfl) (fun _ => rfl)
  · rename_i c
    have hx' := hx
    simp only [DenP, DenC] at hx'
    subst hx'
    have hg : ∀ w : World, (eqGuard op t ox oy (.pointer none) v).run P w = .ok () w := fun w => run_eqGuard_c op t ox oy _ v w (by simp) (by simp)
    simp only [Sem.run_bind, hg, Result.andThen_ok]
    have hsh : ∃ z, v = .pointer z := by
      unfold eqOp at h
      cases c <;> simp [eqV, eqC] at h <;> first
        | (obtain ⟨g, o, n, _, rfl⟩ := hy; exact ⟨_, rfl⟩)
        | (obtain ⟨g, o, n, _, _, rfl⟩ := hy; exact ⟨_, rfl⟩)
        | (simp only [DenP, DenC] at hy; subst hy; exact ⟨_, rfl⟩)
        | (exfalso; revert h; cases op <;> simp; done)
    obtain ⟨z, rfl⟩ := hsh
    exact eqOp_ok hx hy h (fun _ => rfl) (fun _ => rfl)
  · rename_i b o
    have hy' := hy
    simp only [DenP, DenC] at hy'
    subst hy'
    obtain ⟨g, p, n, hr, rfl⟩ := id hx
    simp only [Sem.run_bind, (fun (z : Value) (w : World) => run_eqGuard_c (P := P) op t ox oy z (.pointer none) w (by simp) (by simp)), Result.andThen_ok]
    exact eqOp_ok hx hy h (fun _ => rfl) (fun _ => rfl)
  · have hy' := hy
    simp only [DenP, DenC] at hy'
    subst hy'
    obtain ⟨g, p, n, hr, rfl⟩ := id hx
    simp only [Sem.run_bind, (fun (z : Value) (w : World) => run_eqGuard_c (P := P) op t ox oy z (.pointer none) w (by simp) (by simp)), Result.andThen_ok]
    exact eqOp_ok hx hy h (fun _ => rfl) (fun _ => rfl)
  · have hy' := hy
    simp only [DenP, DenC] at hy'
    subst hy'
    obtain ⟨g, p, n, hr, hr2, rfl⟩ := id hx
    simp only [Sem.run_bind, (fun (z : Value) (w : World) => run_eqGuard_c (P := P) op t ox oy z (.pointer none) w (by simp) (by simp)), Result.andThen_ok]
    exact eqOp_ok hx hy h (fun _ => rfl) (fun _ => rfl)
  · have hx' := hx
    have hy' := hy
    simp only [DenP, DenC] at hx' hy'
    subst hx' hy'
    simp only [Sem.run_bind, (fun w => run_eqGuard_c (P := P) op t ox oy (.slice none 0 0) (.slice none 0 0) w (by simp) (by simp)), Result.andThen_ok]
    exact eqOp_ok hx hy h (fun _ => rfl) (fun _ => rfl)
  · rename_i xs ys
    cases hq : P.eqGuardType P.depth t with
    | true => rw [hq] at h; cases h
    | false =>
      rw [hq] at h
      obtain ⟨us, rfl, hu⟩ := id hx
      obtain ⟨vs, rfl, hv⟩ := id hy
      simp only [Sem.run_bind, (fun x y w => run_eqGuard_agg (P := P) w op t ox oy x y hq), Result.andThen_ok]
      exact eqOp_ok hx hy h (fun _ => rfl) (fun _ => rfl)
  · cases h

def unP (op : UnOp) (x : PV) : PR :=
  match op, x with
  | .not, .c (.bool b) => some ([], [], .c (.bool !b))
  | .neg, .c (.int k n) => some ([], [], .c (.int k (k.wrap (0 - n))))
  | .xor, .c (.int k n) => some ([], [], .c (.int k (Go.bits .xor k (if k.signed then -1 else k.max) n)))
  | _, _ => none
theorem unP_ok {P : Program} {π : Pers} {ρ : Env} {op : UnOp} {x : PV} {u : Value} (hx : DenP π ρ x u) {ob fc : List Prop} {r : PV} (h : unP op x = some (ob, fc, r)) : allP fc ∧ ∃ z, (∀ w : World, (Op.unary op u).run P w = .ok z w) ∧ DenP π ρ r z := by
  unfold unP at h
  split at h
  · cases h; simp only [DenP, DenC] at hx; subst hx; exact ⟨trivial, _, fun _ => rfl, rfl⟩
  · cases h; simp only [DenP, DenC] at hx; subst hx; exact ⟨trivial, _, fun _ => rfl, rfl⟩
  · cases h; simp only [DenP, DenC] at hx; subst hx; exact ⟨trivial, _, fun _ => rfl, rfl⟩
  · cases h

def convP (P : Program) (src dst : TypeId) (x : PV) : PR :=
  match x with
  | .c (.int k n) => match P.underlying src, kindOf P dst with
    | some _, some k' => some ([], [], .c (.int k' (k'.wrap n)))
    | _, _ => none
  | .c (.str s) => bif isSt P src && isSt P dst then some ([], [], .c (.str s)) else none
  | _ => none
theorem convP_ok {P : Program} {π : Pers} {ρ : Env} {src dst : TypeId} {x : PV} {u : Value} (hx : DenP π ρ x u) {ob fc : List Prop} {r : PV} (h : convP P src dst x = some (ob, fc, r)) : allP fc ∧ ∃ z, (∀ w : World, (convert src dst u).run P w = .ok z w) ∧ DenP π ρ r z := by
  unfold convP at h
  split at h
  · rename_i k n
    split at h
    · rename_i d k' hs hd
      cases h
      simp only [DenP, DenC] at hx
      subst hx
      simp only [kindOf] at hd
      split at hd
      · rename_i k'' hk
        cases hd
        refine ⟨trivial, .int k' (k'.wrap n), ?_, rfl⟩
        simp [convert, run_underlying hs, run_underlying hk, Conv.intToInt]
      · cases hd
    · cases h
  · rename_i s
    cases hb : (isSt P src && isSt P dst) with
    | false => rw [hb] at h; cases h
    | true =>
      rw [hb] at h
      cases h
      obtain ⟨rfl, hsz⟩ := hx
      simp only [Bool.and_eq_true, isSt] at hb
      obtain ⟨h1, h2⟩ := hb
      split at h1
      · rename_i hs
        split at h2
        · rename_i hd
          refine ⟨trivial, .string s, ?_, rfl, hsz⟩
          simp [convert, run_underlying hs, run_underlying hd]
        · cases h2
      · cases h1
  · cases h

def lenP (P : Program) (t : TypeId) (x : PV) : PR :=
  match x with
  | .c (.row _ xs) => bif isSl P t then some ([], [xs.length ≤ maxI], .c (.int .i64 xs.length)) else none
  | .c (.view _ _ _ n) => bif isSl P t then some ([], [n ≤ maxI], .c (.int .i64 n)) else none
  | .c .nils => bif isSl P t then some ([], [], .c (.int .i64 0)) else none
  | .c (.str s) => bif isSt P t then some ([], [s.size ≤ maxI], .c (.int .i64 s.size)) else none
  | _ => none
theorem lenP_ok {P : Program} {π : Pers} {ρ : Env} {t ty : TypeId} {x : PV} {u : Value} (hx : DenP π ρ x u) {ob fc : List Prop} {r : PV} (h : lenP P t x = some (ob, fc, r)) : allP fc ∧ ∃ z, (∀ w : World, (Builtin.len_ #[t] ty #[u]).run P w = .ok z w) ∧ DenP π ρ r z := by
  unfold lenP at h
  split at h
  · rename_i ty' xs
    cases hb : isSl P t with
    | false => rw [hb] at h; cases h
    | true =>
      rw [hb] at h
      cases h
      simp only [isSl] at hb
      split at hb
      · rename_i hu
        obtain ⟨A, c, rfl, h2, h3, h4⟩ := hx
        refine ⟨⟨by simp only [maxI, maxLen] at *; omega, trivial⟩, .int .i64 xs.length, ?_, rfl⟩
        simp [Builtin.len_, run_underlying hu, goInt]
      · cases hb
  · rename_i ty' b a n
    cases hb : isSl P t with
    | false => rw [hb] at h; cases h
    | true =>
      rw [hb] at h
      cases h
      simp only [isSl] at hb
      split at hb
      · rename_i hu
        rcases hx with ⟨rfl, A, rfl⟩ | ⟨g, o, m, c, h2, h3, h4, h5, rfl⟩
        · refine ⟨⟨by simp, trivial⟩, .int .i64 0, ?_, rfl⟩
          simp [Builtin.len_, run_underlying hu, goInt]
        · refine ⟨⟨by simp only [maxI, maxLen] at *; omega, trivial⟩, .int .i64 n, ?_, rfl⟩
          simp [Builtin.len_, run_underlying hu, goInt]
      · cases hb
  · cases hb : isSl P t with
    | false => rw [hb] at h; cases h
    | true =>
      rw [hb] at h
      cases h
      simp only [isSl] at hb
      split at hb
      · rename_i hu
        simp only [DenP, DenC] at hx
        subst hx
        refine ⟨trivial, .int .i64 0, ?_, rfl⟩
        simp [Builtin.len_, run_underlying hu, goInt]
      · cases hb
  · rename_i s
    cases hb : isSt P t with
    | false => rw [hb] at h; cases h
    | true =>
      rw [hb] at h
      cases h
      simp only [isSt] at hb
      split at hb
      · rename_i hu
        obtain ⟨rfl, hs⟩ := hx
        refine ⟨⟨hs, trivial⟩, .int .i64 s.size, ?_, rfl⟩
        simp [Builtin.len_, run_underlying hu, goInt]
      · cases hb
  · cases h
end Go.Proofs.Ytkpepieepdmjpaa.Sx
