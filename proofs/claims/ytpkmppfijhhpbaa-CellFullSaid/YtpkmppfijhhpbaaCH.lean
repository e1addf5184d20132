/- Chapter 15 (cell): the law CellApart: its loops' contracts. No condition. -/
import Derived.Test.YtpkmppfijhhpbaaCGV
namespace Go.Proofs.Ytpkmppfijhhpbaa.Ch
open Go Go.Proofs Go.Proofs.Ytpkmppfijhhpbaa.Sx
set_option linter.unusedVariables false
set_option linter.unusedSimpArgs false

noncomputable def offOf (rows : List (List V)) (j : Nat) : Nat := (rows.take j).flatten.length
noncomputable def atsOf (rows : List (List V)) : List Int := (List.range rows.length).map fun j => (offOf rows j : Int) + 1
noncomputable def ap0_l : SS → (Exit → SS → Prop) → Prop := lamOf 0 [0, 1, 2, 7, 8, 9] (fun d : ApD => stA d [] (List.replicate d.rows.length (0 : Int)) 0) (fun d => d.rows.length ≤ 40)
  fun d Q => Q .ret (stRes 181 6 (.c (.bool true))) ∧ ((∀ r ∈ d.rows, r.length ≤ 20) → Q (.exit 0) (stB d d.rows.flatten (atsOf d.rows)))
def ApOk (d : ApD) : Prop := d.rows.length ≤ 40 ∧ (∀ r ∈ d.rows, r.length ≤ 20) ∧ d.k < d.rows.length ∧ d.list.length ≤ (d.rows.getD d.k []).length
noncomputable def ap2_l : SS → (Exit → SS → Prop) → Prop := lamOf 0 [0, 2, 7, 8, 12, 13] (fun d : ApD => stC d (splice d.rows.flatten (offOf d.rows d.k) d.list) (atsOf d.rows) 0) ApOk
  fun d Q => Q (.exit 2) (stNo 181)
end Go.Proofs.Ytpkmppfijhhpbaa.Ch
