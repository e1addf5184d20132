/- WideLaws' pure statement: sums and products of 128-bit numbers keep the laws of whole numbers as long as they fit. No condition. -/
import Derived.Test.YtjnaebcdidilgaaWE
import Derived.Test.YtjnaebcdidilgaaWD
import Derived.Test.YtjnaebcdidilgaaQx36
namespace Go.Proofs.Ytjnaebcdidilgaa.Q
open Go.RowKit Go.Proofs.YtjnaebcdidilgaaW.PrintWords Go.Proofs.YtjnaebcdidilgaaW.PrintLast Go.Proofs.YtjnaebcdidilgaaW.PrintMore
set_option linter.unusedVariables false

theorem W64_wf {n : Int} (h : (Lit.int .u64 n).wf = true) : W64 n := by
  simp only [Lit.wf, Bool.and_eq_true, decide_eq_true_eq] at h
  have h1 : IntKind.u64.min = 0 := by decide
  have h2 : IntKind.u64.max = 18446744073709551615 := by decide
  unfold W64
  omega
theorem WideLaws_main (ah al bh bl ch cl : Int) (h1 : W64 ah) (h2 : W64 al) (h3 : W64 bh) (h4 : W64 bl) (h5 : W64 ch) (h6 : W64 cl) : lorgnettelaw01_WideLaws.f 600 ah al bh bl ch cl = some true := by
  have fa := sval_fits h1 h2
  have fb := sval_fits h3 h4
  have fc := sval_fits h5 h6
  have ea := hiS_sval h1 h2
  have la := loS_sval h1 h2
  unfold lorgnettelaw01_WideLaws.f
  rw [awake_ok, Option.bind_some, if_pos rfl, Add_is h1 h2 h3 h4, Option.bind_some, Add_is h3 h4 h1 h2, Option.bind_some, Mul_is 600 (by omega) h1 h2 h3 h4, Option.bind_some, Mul_is 600 (by omega) h3 h4 h1 h2, Option.bind_some, Int.add_comm (sval bh bl), Int.mul_comm (sval bh bl)]
  simp only [beq_self_eq_true, Bool.not_true, Bool.or_false, Bool.false_eq_true, if_false, if_true]
  have j0 : ∀ (e sh sl : Int), W64 sh → W64 sl → (e = 0 → sval sh sl = sval ah al + sval bh bl) → lorgnettelaw01_WideLaws.j0 600 e ah al bh bl ch cl sh sl = some true := by
    intro e sh sl w1 w2 he
    simp only [lorgnettelaw01_WideLaws.j0]
    rw [Mul_is _ (by omega) h1 h2 h5 h6, Option.bind_some, Mul_is _ (by omega) h3 h4 h5 h6, Option.bind_some, Mul_is _ (by omega) w1 w2 h5 h6, Option.bind_some, Add_is (ans_W _).1 (ans_W _).2 (ans_W _).1 (ans_W _).2, Option.bind_some]
    by_cases he0 : e = 0
    · rw [if_pos he0, he he0]
      have dist : (sval ah al + sval bh bl) * sval ch cl = sval ah al * sval ch cl + sval bh bl * sval ch cl := Int.add_mul ..
      rw [dist]
      generalize sval ah al * sval ch cl = x at *
      generalize sval bh bl * sval ch cl = y at *
      by_cases fx : fits x
      · rw [if_pos (by rw [ans_pos fx])]
        by_cases fy : fits y
        · rw [if_pos (by rw [ans_pos fy])]
          by_cases fs : fits (x + y)
          · rw [if_pos (by rw [ans_pos fs])]
            rw [ans_pos fx, ans_pos fy]
            simp only
            rw [sval_back fx, sval_back fy, ans_pos fs]
            simp
          · rw [if_neg (by rw [ans_neg fs]; decide)]
        · rw [if_neg (by rw [ans_neg fy]; decide)]
      · rw [if_neg (by rw [ans_neg fx]; decide)]
    · rw [if_neg he0]
  by_cases fs : fits (sval ah al + sval bh bl)
  · rw [if_pos (by rw [ans_pos fs])]
    have hd : wide_Sub.f (ans (sval ah al + sval bh bl)).1 (ans (sval ah al + sval bh bl)).2.1 bh bl = some (ah, al, 0) := by
      rw [Sub_is (ans_W _).1 (ans_W _).2 h3 h4, ans_pos fs]
      simp only
      rw [sval_back fs, Int.add_sub_cancel, ans_pos fa, ea, la]
    rw [hd, Option.bind_some]
    simp only [beq_self_eq_true, Bool.not_true, Bool.or_false, Bool.false_eq_true, if_false, if_true]
    exact j0 _ _ _ (ans_W _).1 (ans_W _).2 (fun _ => by rw [ans_pos fs]; exact sval_back fs)
  · rw [if_neg (by rw [ans_neg fs]; decide)]
    exact j0 _ _ _ (ans_W _).1 (ans_W _).2 (fun h => by rw [ans_neg fs] at h; exact absurd h (by decide))
theorem WideLaws_pure (ah al bh bl ch cl : Int) (h1 : (Lit.int .u64 ah).wf = true) (h2 : (Lit.int .u64 al).wf = true) (h3 : (Lit.int .u64 bh).wf = true) (h4 : (Lit.int .u64 bl).wf = true) (h5 : (Lit.int .u64 ch).wf = true) (h6 : (Lit.int .u64 cl).wf = true) : lorgnettelaw01_WideLaws.f 600 ah al bh bl ch cl = some true :=
  WideLaws_main ah al bh bl ch cl (W64_wf h1) (W64_wf h2) (W64_wf h3) (W64_wf h4) (W64_wf h5) (W64_wf h6)
end Go.Proofs.Ytjnaebcdidilgaa.Q
