/- Statements over the abstract machine, reckoned out: printed by a program of this session. No condition. -/
import Derived.Test.YtmncmmdicpcgmaaTR
namespace Go.Proofs.Ytmncmmdicpcgmaa.Ch
open Go Go.Proofs Go.Proofs.Ytmncmmdicpcgmaa.Sx
set_option linter.unusedVariables false
theorem vc_awake (Q : SV → List HB → Prop) :
    (body Try.prog (gam gAwake) noLam Try.f7 [] [] Q) =
    ((([] : List Rw) = [] ∧ true = true ∧ (0 : Nat) ≤ (65536 : Nat)) ∧
  (1 : Nat) ≤ (1 : Nat) ∧
    (TreeOk [mkRow [] ((9 : Int), ((0 : Int), (0 : Int), (0 : Int)), { data := #[(120 : UInt8)] : ByteArray }, [])] ∧
        (1 : Nat) = (1 : Nat) ∧ true = true ∧ (1 : Nat) ≤ (65536 : Nat)) ∧
      (1 : Nat) ≤ (1 : Nat) ∧
        (TreeOk
              ([mkRow []
                    ((9 : Int), ((0 : Int), (0 : Int), (0 : Int)), { data := #[(120 : UInt8)] : ByteArray }, [])] ++
                [mkRow
                    [mkRow []
                        ((9 : Int), ((0 : Int), (0 : Int), (0 : Int)), { data := #[(120 : UInt8)] : ByteArray }, [])]
                    ((26 : Int), ((0 : Int), (0 : Int), (0 : Int)), { data := #[] : ByteArray }, [(1 : Int)])]) ∧
            2 = (2 : Nat) ∧ (2 : Nat) = (2 : Nat) ∧ false = false ∧ (1 : Nat) ≤ (65536 : Nat)) ∧
          (2 = (2 : Nat) ∧
              TreeOk
                ([mkRow []
                      ((9 : Int), ((0 : Int), (0 : Int), (0 : Int)), { data := #[(120 : UInt8)] : ByteArray }, [])] ++
                  [mkRow
                      [mkRow []
                          ((9 : Int), ((0 : Int), (0 : Int), (0 : Int)), { data := #[(120 : UInt8)] : ByteArray }, [])]
                      ((26 : Int), ((0 : Int), (0 : Int), (0 : Int)), { data := #[] : ByteArray }, [(1 : Int)])])) ∧
            (2 = (2 : Nat) ∧
                TreeOk
                    ([mkRow []
                          ((9 : Int), ((0 : Int), (0 : Int), (0 : Int)), { data := #[(120 : UInt8)] : ByteArray },
                            [])] ++
                      [mkRow
                          [mkRow []
                              ((9 : Int), ((0 : Int), (0 : Int), (0 : Int)), { data := #[(120 : UInt8)] : ByteArray },
                                [])]
                          ((26 : Int), ((0 : Int), (0 : Int), (0 : Int)), { data := #[] : ByteArray }, [(1 : Int)])]) ∧
                  (∀ (r : tR.T),
                      r ∈
                          [mkRow []
                                ((9 : Int), ((0 : Int), (0 : Int), (0 : Int)), { data := #[(120 : UInt8)] : ByteArray },
                                  [])] ++
                            [mkRow
                                [mkRow []
                                    ((9 : Int), ((0 : Int), (0 : Int), (0 : Int)),
                                      { data := #[(120 : UInt8)] : ByteArray }, [])]
                                ((26 : Int), ((0 : Int), (0 : Int), (0 : Int)), { data := #[] : ByteArray },
                                  [(1 : Int)])] →
                        (kidsOf r.fst).length ≤ (65536 : Nat)) ∧
                    true = true) ∧
              ∀ (s : List Rw) (idx : Int),
                CopyOf
                    (nodes
                      ([mkRow []
                            ((9 : Int), ((0 : Int), (0 : Int), (0 : Int)), { data := #[(120 : UInt8)] : ByteArray },
                              [])] ++
                        [mkRow
                            [mkRow []
                                ((9 : Int), ((0 : Int), (0 : Int), (0 : Int)), { data := #[(120 : UInt8)] : ByteArray },
                                  [])]
                            ((26 : Int), ((0 : Int), (0 : Int), (0 : Int)), { data := #[] : ByteArray }, [(1 : Int)])]))
                    (2 : Int) (1 : Int)
                    ((9 : Int), ((0 : Int), (0 : Int), (0 : Int)), { data := #[(95 : UInt8)] : ByteArray }, []) [] s
                    idx →
                  (true = true → (0 : Int) ≤ (0 : Int) ∧ (0 : Int) < (↑(2) : Int) ∧ True) ∧
                    (true = true → (0 : Nat) < (2 : Nat) ∧ True) ∧
                      (true = true → (0 : Int) ≤ (1 : Int) ∧ (1 : Int) < (↑(2) : Int) ∧ True) ∧
                        (true = true → (1 : Nat) < (2 : Nat) ∧ True) ∧
                          (2 = (2 : Nat) ∧
                              TreeOk
                                  ([mkRow []
                                        ((9 : Int), ((0 : Int), (0 : Int), (0 : Int)),
                                          { data := #[(120 : UInt8)] : ByteArray }, [])] ++
                                    [mkRow
                                        [mkRow []
                                            ((9 : Int), ((0 : Int), (0 : Int), (0 : Int)),
                                              { data := #[(120 : UInt8)] : ByteArray }, [])]
                                        ((26 : Int), ((0 : Int), (0 : Int), (0 : Int)), { data := #[] : ByteArray },
                                          [(1 : Int)])]) ∧
                                true = true) ∧
                            (s.length = s.length ∧
                                s.length ≤ (65536 : Nat) ∧
                                  (∀ (r : tR.T), r ∈ s → (kidsOf r.fst).length ≤ (65536 : Nat)) ∧
                                    hasB s.length idx = true) ∧
                              (true = true →
                                  (0 : Int) ≤ (0 : Int) ∧
                                    (0 : Int) < (↑(kidsOf (Ytmncmmdicpcgmaa.Ch.rowAt s idx).fst).length : Int) ∧ True) ∧
                                (true = true →
                                    (0 : Nat) < (kidsOf (Ytmncmmdicpcgmaa.Ch.rowAt s idx).fst).length ∧ True) ∧
                                  (s.length = s.length ∧
                                      s.length ≤ (65536 : Nat) ∧
                                        (∀ (r : tR.T), r ∈ s → (kidsOf r.fst).length ≤ (65536 : Nat)) ∧
                                          hasB s.length
                                              ((kidsOf (Ytmncmmdicpcgmaa.Ch.rowAt s idx).fst).getD (0 : Nat) tI.dft) =
                                            true) ∧
                                    bif
                                        true &&
                                          strEq
                                            (Ytmncmmdicpcgmaa.Ch.rowAt s
                                                      ((kidsOf (Ytmncmmdicpcgmaa.Ch.rowAt s idx).fst).getD (0 : Nat)
                                                        tI.dft)).fst.snd.snd.fst
                                            { data := #[(95 : UInt8)] : ByteArray } then
                                      (2 = (2 : Nat) ∧
                                          smO (4 : Nat)
                                            ([mkRow []
                                                  ((9 : Int), ((0 : Int), (0 : Int), (0 : Int)),
                                                    { data := #[(120 : UInt8)] : ByteArray }, [])] ++
                                              [mkRow
                                                  [mkRow []
                                                      ((9 : Int), ((0 : Int), (0 : Int), (0 : Int)),
                                                        { data := #[(120 : UInt8)] : ByteArray }, [])]
                                                  ((26 : Int), ((0 : Int), (0 : Int), (0 : Int)),
                                                    { data := #[] : ByteArray }, [(1 : Int)])])
                                            ([mkRow []
                                                  ((9 : Int), ((0 : Int), (0 : Int), (0 : Int)),
                                                    { data := #[(120 : UInt8)] : ByteArray }, [])] ++
                                              [mkRow
                                                  [mkRow []
                                                      ((9 : Int), ((0 : Int), (0 : Int), (0 : Int)),
                                                        { data := #[(120 : UInt8)] : ByteArray }, [])]
                                                  ((26 : Int), ((0 : Int), (0 : Int), (0 : Int)),
                                                    { data := #[] : ByteArray }, [(1 : Int)])])
                                            (2 : Int)) ∧
                                        (2 =
                                              List.length
                                                ([mkRow []
                                                      ((9 : Int), ((0 : Int), (0 : Int), (0 : Int)),
                                                        { data := #[(120 : UInt8)] : ByteArray }, [])] ++
                                                  [mkRow
                                                      [mkRow []
                                                          ((9 : Int), ((0 : Int), (0 : Int), (0 : Int)),
                                                            { data := #[(120 : UInt8)] : ByteArray }, [])]
                                                      ((26 : Int), ((0 : Int), (0 : Int), (0 : Int)),
                                                        { data := #[] : ByteArray }, [(1 : Int)])]) ∧
                                            s.length = s.length ∧
                                              smO (4 : Nat)
                                                ([mkRow []
                                                      ((9 : Int), ((0 : Int), (0 : Int), (0 : Int)),
                                                        { data := #[(120 : UInt8)] : ByteArray }, [])] ++
                                                  [mkRow
                                                      [mkRow []
                                                          ((9 : Int), ((0 : Int), (0 : Int), (0 : Int)),
                                                            { data := #[(120 : UInt8)] : ByteArray }, [])]
                                                      ((26 : Int), ((0 : Int), (0 : Int), (0 : Int)),
                                                        { data := #[] : ByteArray }, [(1 : Int)])])
                                                s (2 : Int)) ∧
                                          Q
                                            (SV.p
                                              (PV.c
                                                (CV.bool
                                                  (true &&
                                                    !sm
                                                        (nodes
                                                          ([mkRow []
                                                                ((9 : Int), ((0 : Int), (0 : Int), (0 : Int)),
                                                                  { data := #[(120 : UInt8)] : ByteArray }, [])] ++
                                                            [mkRow
                                                                [mkRow []
                                                                    ((9 : Int), ((0 : Int), (0 : Int), (0 : Int)),
                                                                      { data := #[(120 : UInt8)] : ByteArray }, [])]
                                                                ((26 : Int), ((0 : Int), (0 : Int), (0 : Int)),
                                                                  { data := #[] : ByteArray }, [(1 : Int)])]))
                                                        (2 : Int) (nodes s) idx))))
                                            []
                                    else Q (SV.p (PV.c (CV.bool false))) []) := by kernel_rfl

end Go.Proofs.Ytmncmmdicpcgmaa.Ch
