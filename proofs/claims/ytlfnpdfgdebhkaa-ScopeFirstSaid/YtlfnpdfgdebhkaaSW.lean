/- Chapter 7 (scope): the law ScopeFirst, proved. No condition. -/
import Derived.Test.YtlfnpdfgdebhkaaSV
namespace Go.Proofs.Ytlfnpdfgdebhkaa.Ch
open Go Go.Proofs Go.Proofs.Ytlfnpdfgdebhkaa.Sx
set_option linter.unusedVariables false
set_option linter.unusedSimpArgs false

theorem gokFirst : GOK Try.prog (gam gFirst) := gam_ok ⟨awake_ok, start_ok, orNil_ok find0_ok find_ok, orNil_ok open0_ok open_ok, orNil_ok put0_ok put_ok, trivial⟩
structure FD where
  i : Nat
  o : List Int
  ins : List Int
  l : List Ob
  es : Es
  a : Int
def FOk (nm : ByteArray) (d : FD) : Prop := OutI d.o ∧ Inv d.ins d.l d.es ∧ (∀ x ∈ d.ins, x < (d.o.length : Int)) ∧ inB d.o.length d.a = true ∧ d.o.length ≤ 2 + d.i ∧ d.l.length ≤ 19 + d.i
theorem first_loop (nm : ByteArray) (w : List Bool) (h1 : nm ≠ ⟨#[]⟩) (h2 : nm ≠ ⟨#[95]⟩) (hw : w.length ≤ 40) (Q : Exit → SS → Prop) (hq : Q (.exit 0) (⟨101, [], []⟩ : SS)) : W 0 Try.prog (.loop (lp Try.f3 0)) (stSF nm w [0, 0] startL startEs (findV [0, 0] startEs 1 nm).1 1 0) Q := by
  refine W_loopE (N := 0) (P := Try.prog) (body := lp Try.f3 0) (Q := Q) (fun d : FD => stSF nm w d.o d.l d.es (findV d.o d.es d.a nm).1 d.a d.i) (fun d => d.i ≤ w.length ∧ FOk nm d) (fun d => w.length - d.i) [0, 1, 5, 6, 9, 10] [] [4] (fun ⟨i, o, ins, l, es, a⟩ ⟨hi, hF⟩ => ?_) ⟨0, [0, 0], rIns, startL, startEs, 1⟩ ⟨Nat.zero_le _, outI_start, inv_all, by decide, rfl, by decide, by decide⟩
  obtain ⟨hO, hI, hx, ha, ho, hl⟩ := hF
  dsimp only at hi hO hI hx ha ho hl ⊢
  refine sx_ok (Λ := noLam) gokFirst _ 0 _ _ noLam_ok ?_
  rw [vc_firstl]
  intro hm
  refine cond_of (fun hc => ?_) (fun hc => hq)
  have hc : i < w.length := by simpa using hc
  have ei : IntKind.i64.wrap ((i : Int) + 1) = ((i + 1 : Nat) : Int) := w64n (n := i + 1) (by omega)
  have hlo : (o ++ [a]).length = o.length + 1 := by simp
  have hO' := outI_open hO ha
  have hin' : inB (o ++ [a]).length (o.length : Int) = true := inB_iff.2 (by rw [hlo]; have := hO.1; omega)
  have hn := look_new hI hx nm
  have hf := find_new hO ha es nm hn
  have hok := outI_ok hO'
  have hl1 := hI.2.1
  have s1 : strEq nm ⟨#[]⟩ = false := by cases h : strEq nm ⟨#[]⟩ with | false => rfl | true => exact absurd ((strEq_iff _ _).1 h) h1
  have s2 : strEq nm ⟨#[95]⟩ = false := by cases h : strEq nm ⟨#[95]⟩ with | false => rfl | true => exact absurd ((strEq_iff _ _).1 h) h2
  have hx' : ∀ x ∈ ins, x < ((o ++ [a]).length : Int) := fun x h => by have := hx x h; rw [hlo]; omega
  have hdec : w.length - (i + 1) < w.length - i := by omega
  have nz : ∀ (o ins : List Int) (l : List Ob) (es : Es) (b : Int), Inv ins l es → OutOk o → ((findV o es b nm).1 != (findV o es b nm).1 || !(findV o es b nm).2.2 == ((findV o es b nm).1 != 0)) = false := fun o ins l es b hI hO => by
    rw [find_same hI hO]; simp [trip]
  have nz' : ∀ (o ins : List Int) (l : List Ob) (es : Es) (b : Int), Inv ins l es → OutOk o → ∀ c, c = (findV o es b nm).1 → ((findV o es b nm).1 != c || !((findV o es b nm).2.2 == (c != 0))) = false := fun o ins l es b hI hO c hc => by
    subst hc; rw [find_same hI hO]; simp [trip]
  rw [Int.toNat_natCast, getD_at hc, ei]
  have hoa : ((o ++ [a]).length = (o ++ [a]).length ∧ l.length = l.length ∧ (o ++ [a]).length ≤ 1000 ∧ l.length < 1000 ∧ 1 ≤ l.length) := ⟨rfl, rfl, by omega, by omega, hl1⟩
  have hp1 : putE (o ++ [a]).length es (o.length : Int) (1, nm, 0, 0, (i : Int), (0, (0, 0), false, ⟨#[]⟩), 0, 0, 0) = 0 := by
    unfold putE
    dsimp only
    rw [if_pos (by rw [hin', s1]; rfl), if_neg (by rw [hn]; simp)]
  have hes : putEs es (o.length : Int) nm l.length = es ++ [(((o.length : Int), nm), (l.length : Int))] := by
    unfold putEs; rw [if_neg (by rw [s2]; simp)]; exact setM_none hn
  have hlk : lookV (putEs es (o.length : Int) nm l.length) (o.length : Int) nm = some (l.length : Int) := by
    rw [hes]
    unfold lookV at hn ⊢
    rw [lookM_app, hn]; simp
  have hp2 : putE (o ++ [a]).length (putEs es (o.length : Int) nm l.length) (o.length : Int) (4, nm, 0, 0, 0, (0, (0, 0), false, ⟨#[]⟩), 0, 0, 0) = 8 := by
    unfold putE
    dsimp only
    rw [if_pos (by rw [hin', s1]; rfl), if_pos (by rw [hlk]; rfl)]
  have hfh := find_hit hin' hlk
  have hll : ∀ ob : Ob, (l ++ [ob]).length = l.length + 1 := fun ob => by simp
  refine ⟨⟨rfl, rfl, by omega, by omega, hl1⟩, ⟨fun hb => absurd hb (by rw [ha]; simp), fun _ => ⟨by omega, by omega, hc, cond_of (fun _ => ⟨hoa, ⟨fun hne => absurd hp1 hne, fun _ => ⟨⟨rfl, rfl, by omega, by rw [hll]; omega, by rw [hll]; omega⟩, ⟨fun _ => ?_, fun hz => absurd hz (by rw [hp2]; omega)⟩⟩⟩⟩) (fun _ => ?_)⟩⟩⟩
  · rw [hp2, hfh]
    refine cond_of (fun h => by simp at h) (fun _ => ⟨⟨⟨rfl, rfl, by omega, by rw [hll]; omega, by rw [hll]; omega⟩, hok⟩, cond_of (fun h => ?_) (fun _ => ?_)⟩)
    · exfalso
      have hz : ((l.length : Int) != 0) = true := bne_iff_ne.2 (by omega)
      rw [hz] at h
      simp at h
    · have hI2 := inv_put hI (o.length : Int) (1, nm, 0, 0, (i : Int), (0, (0, 0), false, ⟨#[]⟩), 0, 0, 0) hn
      refine ⟨⟨i + 1, o ++ [a], ins ++ [(o.length : Int)], l ++ [(1, nm, 0, 0, (i : Int), (0, (0, 0), false, ⟨#[]⟩), 0, 0, 0)], putEs es (o.length : Int) nm l.length, (o.length : Int)⟩, by dsimp only; rw [hfh], ⟨hc, hO', hI2, fun x h => ?_, hin', by show (o ++ [a]).length ≤ 2 + (i + 1); omega, by show (l ++ [_]).length ≤ 19 + (i + 1); rw [hll]; omega⟩, hdec⟩
      rcases List.mem_append.1 h with h | h
      · exact hx' x h
      · obtain rfl := List.mem_singleton.1 h
        show (o.length : Int) < ((o ++ [a]).length : Int)
        rw [hlo]; omega
  · rw [nz' _ _ _ _ _ hI hok _ (by rw [hf])]
    exact ⟨⟨hoa, hok⟩, ⟨i + 1, o ++ [a], ins, l, es, (o.length : Int)⟩, by rw [hf], ⟨hc, hO', hI, hx', hin', by show (o ++ [a]).length ≤ 2 + (i + 1); omega, by show l.length ≤ 19 + (i + 1); omega⟩, hdec⟩
theorem first_ok (nm : ByteArray) (w : List Bool) : FSpec Try.prog 3 [.c (.str nm), .c (.row .bool w)] [] fun r h' => r = .p (.c (.bool true)) := by
  refine spec_body (Λ := lam [(0, first_l)]) gokFirst Try.func3 rfl ?_ ?_
  · exact lokl (l := [(0, lp Try.f3 0)]) ⟨lam_ok fun x Q ⟨a1, a2, a3⟩ a => first_loop x.1 x.2 a1 a2 a3 Q a, trivial⟩
  rw [vc_first]
  refine cond_of (fun _ => rfl) (fun hc => ⟨⟨by decide, outI_ok outI_start⟩, (nm, w), rfl, ⟨fun e => ?_, fun e => ?_, ?_⟩, rfl⟩)
  · subst e; simp [(strEq_iff _ _).2 rfl] at hc
  · subst e; rw [(strEq_iff _ _).2 rfl, Bool.or_true] at hc; simp at hc
  · simp only [Bool.or_eq_false_iff, decide_eq_false_iff_not] at hc
    show w.length ≤ 40
    omega
end Go.Proofs.Ytlfnpdfgdebhkaa.Ch
