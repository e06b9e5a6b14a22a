/-
  The functions of the seat's program, as plain functions.
-/
import Derived.Test.YtohkmbpdjigjdaaDoorLgSoftAFb
namespace Go.Proofs.YtohkmbpdjigjdaaDoor.Lg
open Go Go.Eng Go.Proofs
set_option maxRecDepth 100000

/-! lodge/lodgelaw11.SoftShifts -/

abbrev ps_lodgelaw11_SoftShifts : List Ty := [(.sl (.int .i64)), (.int .i64), (.int .i64)]
abbrev rs_lodgelaw11_SoftShifts : List Slot := [.data .bool]
abbrev cs_lodgelaw11_SoftShifts (N : Nat) : List CallSpec := [c_soft_Table N, c_soft_Softmax N, c_lodgelaw11_first N, c_lodgeworld_Number N, c_lodgeref_Tensor N, c_soft_ArgMax N, c_lodgeref_SameTensor N]
noncomputable abbrev b_lodgelaw11_SoftShifts : Code := (Go.Proofs.Tryd.f5.body).getD .skip

abbrev h_lodgelaw11_SoftShifts_0 : List Slot := [.data (.sl (.int .i64)), .data (.int .i64), .data (.int .i64), .dead, .dead, .dead, .dead, .dead, .box [.sl (.int .i64), .d .bool, .sl (.int .i64)], .data (.int .i64), .dead, .dead, .dead, .dead, .dead, .dead, .dead, .dead, .dead, .dead, .dead, .dead, .dead, .dead, .dead, .dead, .dead, .dead, .dead, .dead, .dead, .dead, .dead, .dead, .dead, .dead, .dead, .dead, .dead, .dead, .dead, .dead, .dead, .dead, .dead, .dead, .dead, .dead, .dead, .dead, .dead, .dead, .dead, .dead, .dead, .dead, .dead, .dead, .dead, .dead, .dead, .dead, .dead, .dead, .dead, .dead, .dead, .dead, .dead, .dead, .dead, .dead, .dead, .dead, .dead, .dead, .dead, .dead, .dead, .dead, .dead, .dead, .dead, .dead, .dead, .dead, .dead, .dead, .dead, .dead, .dead, .dead, .dead, .dead, .dead, .dead, .dead, .dead, .dead, .dead, .dead, .dead, .dead, .dead, .dead, .dead, .dead, .dead, .dead, .dead, .dead, .dead, .dead, .dead, .dead, .dead, .dead, .dead, .dead, .dead, .dead, .dead, .dead, .dead, .dead, .dead, .dead, .dead, .dead, .dead, .dead, .dead, .dead, .dead, .dead, .dead, .dead, .dead, .dead, .dead, .dead, .dead, .dead, .dead, .dead, .dead, .dead, .dead, .dead, .dead, .dead, .dead, .dead, .dead, .dead, .dead, .dead, .dead, .dead, .dead, .dead, .dead, .dead, .dead, .dead, .dead, .dead, .dead, .dead, .dead, .dead, .dead, .dead, .dead, .dead, .dead, .dead, .dead, .dead, .dead, .dead, .dead, .dead, .dead, .dead, .dead, .dead, .dead, .dead, .dead, .dead, .dead, .dead, .dead, .dead, .dead, .dead, .dead, .dead, .dead, .dead, .dead, .dead, .dead, .dead, .dead, .dead, .dead, .dead]
abbrev e_lodgelaw11_SoftShifts_0 : List (AX × List Slot) := [(AX.exit 0, [.data (.sl (.int .i64)), .data (.int .i64), .data (.int .i64), .dead, .dead, .dead, .dead, .dead, .box [.sl (.int .i64), .d .bool, .sl (.int .i64)], .dead, .dead, .dead, .dead, .dead, .dead, .dead, .dead, .dead, .dead, .dead, .dead, .dead, .dead, .dead, .dead, .dead, .dead, .dead, .dead, .dead, .dead, .dead, .dead, .dead, .dead, .dead, .dead, .dead, .dead, .dead, .dead, .dead, .dead, .dead, .dead, .dead, .dead, .dead, .dead, .dead, .dead, .dead, .dead, .dead, .dead, .dead, .dead, .dead, .dead, .dead, .dead, .dead, .dead, .dead, .dead, .dead, .dead, .dead, .dead, .dead, .dead, .dead, .dead, .dead, .dead, .dead, .dead, .dead, .dead, .dead, .dead, .dead, .dead, .dead, .dead, .dead, .dead, .dead, .dead, .dead, .dead, .dead, .dead, .dead, .dead, .dead, .dead, .dead, .dead, .dead, .dead, .dead, .dead, .dead, .dead, .dead, .dead, .dead, .dead, .dead, .dead, .dead, .dead, .dead, .dead, .dead, .dead, .dead, .dead, .dead, .dead, .dead, .dead, .dead, .dead, .dead, .dead, .dead, .dead, .dead, .dead, .dead, .dead, .dead, .dead, .dead, .dead, .dead, .dead, .dead, .dead, .dead, .dead, .dead, .dead, .dead, .dead, .dead, .dead, .dead, .dead, .dead, .dead, .dead, .dead, .dead, .dead, .dead, .dead, .dead, .dead, .dead, .dead, .dead, .dead, .dead, .dead, .dead, .dead, .dead, .dead, .dead, .dead, .dead, .dead, .dead, .dead, .dead, .dead, .dead, .dead, .dead, .dead, .dead, .dead, .dead, .dead, .dead, .dead, .dead, .dead, .dead, .dead, .dead, .dead, .dead, .dead, .dead, .dead, .dead, .dead, .dead, .dead, .dead, .dead, .dead, .dead, .dead, .dead])]
def g_lodgelaw11_SoftShifts_0 (N : Nat) : Nat → List Int → Int → Int → (List Int × (Bool × (List Int × Unit))) → Int → Option (List Int × (Int × (Int × ((List Int × (Bool × (List Int × Unit))) × Unit))))
  | 0, _, _, _, _, _ => none
  | n + 1, l_0, by_1, n_2, a_8, i_9 =>
    cond (decide (i_9 < (Nat.cast (List.length l_0) : Int)))
      (
      cond (decide ((0 : Int) ≤ i_9))
        (
        cond (decide ((Int.toNat i_9) < (List.length l_0)))
          (
          Option.bind (F_lodgeworld_Number N (List.getD l_0 (Int.toNat i_9) (0 : Int)) (100 : Int)) fun y3 =>
          cond (decide (((0 : Nat) + (List.length (((a_8).2).2).1)) = (List.length (((a_8).2).2).1)))
            (
            cond (decide ((((List.length (((a_8).2).2).1) + 1) * (8 + (1 : Nat))) ≤ Go.Eng.most))
              (
              cond (decide ((List.length (a_8).1) = (List.length (a_8).1)))
                (
                cond (decide (((List.length (((a_8).2).2).1) + 1) = (List.length ((List.take (List.length (((a_8).2).2).1) (((a_8).2).2).1) ++ ((wi64 ((y3).1 - (50 : Int))) :: ([] : List Int))))))
                  (
                  (g_lodgelaw11_SoftShifts_0 N n l_0 by_1 n_2 ((a_8).1, (((a_8).2).1, (((List.take (List.length (((a_8).2).2).1) (((a_8).2).2).1) ++ ((wi64 ((y3).1 - (50 : Int))) :: ([] : List Int))), ()))) (wi64 (i_9 + (1 : Int)))))
                  (
                  none))
                (
                none))
              (
              none))
            (
            none))
          (
          none))
        (
        none))
      (
      cond (decide ((List.length (a_8).1) = (List.length (a_8).1)))
        (
        cond (decide ((List.length (((a_8).2).2).1) = (List.length (((a_8).2).2).1)))
          (
          some (l_0, (by_1, (n_2, (a_8, ())))))
          (
          none))
        (
        none))

abbrev h_lodgelaw11_SoftShifts_1 : List Slot := [.data (.sl (.int .i64)), .data (.int .i64), .data (.int .i64), .dead, .dead, .dead, .dead, .dead, .box [.sl (.int .i64), .d .bool, .sl (.int .i64)], .dead, .box [.sl (.int .i64), .d .bool, .sl (.int .i64)], .data (.int .i64), .dead, .dead, .dead, .dead, .dead, .dead, .dead, .dead, .dead, .dead, .dead, .dead, .dead, .dead, .dead, .dead, .dead, .dead, .dead, .dead, .dead, .dead, .dead, .dead, .dead, .dead, .dead, .dead, .dead, .dead, .dead, .dead, .dead, .dead, .dead, .dead, .dead, .dead, .dead, .dead, .dead, .dead, .dead, .dead, .dead, .dead, .dead, .dead, .dead, .dead, .dead, .dead, .dead, .dead, .dead, .dead, .dead, .dead, .dead, .dead, .dead, .dead, .dead, .dead, .dead, .dead, .dead, .dead, .dead, .dead, .dead, .dead, .dead, .dead, .dead, .dead, .dead, .dead, .dead, .dead, .dead, .dead, .dead, .dead, .dead, .dead, .dead, .dead, .dead, .dead, .dead, .dead, .dead, .dead, .dead, .dead, .dead, .dead, .dead, .dead, .dead, .dead, .dead, .dead, .dead, .dead, .dead, .dead, .dead, .dead, .dead, .dead, .dead, .dead, .dead, .dead, .dead, .dead, .dead, .dead, .dead, .dead, .dead, .dead, .dead, .dead, .dead, .dead, .dead, .dead, .dead, .dead, .dead, .dead, .dead, .dead, .dead, .dead, .dead, .dead, .dead, .dead, .dead, .dead, .dead, .dead, .dead, .dead, .dead, .dead, .dead, .dead, .dead, .dead, .dead, .dead, .dead, .dead, .dead, .dead, .dead, .dead, .dead, .dead, .dead, .dead, .dead, .dead, .dead, .dead, .dead, .dead, .dead, .dead, .dead, .dead, .dead, .dead, .dead, .dead, .dead, .dead, .dead, .dead, .dead, .dead, .dead, .dead, .dead, .dead, .dead, .dead, .dead, .dead, .dead, .dead, .dead]
abbrev e_lodgelaw11_SoftShifts_1 : List (AX × List Slot) := [(AX.exit 2, [.data (.sl (.int .i64)), .data (.int .i64), .dead, .dead, .dead, .dead, .dead, .dead, .box [.sl (.int .i64), .d .bool, .sl (.int .i64)], .dead, .box [.sl (.int .i64), .d .bool, .sl (.int .i64)], .dead, .dead, .dead, .dead, .dead, .dead, .dead, .dead, .dead, .dead, .dead, .dead, .dead, .dead, .dead, .dead, .dead, .dead, .dead, .dead, .dead, .dead, .dead, .dead, .dead, .dead, .dead, .dead, .dead, .dead, .dead, .dead, .dead, .dead, .dead, .dead, .dead, .dead, .dead, .dead, .dead, .dead, .dead, .dead, .dead, .dead, .dead, .dead, .dead, .dead, .dead, .dead, .dead, .dead, .dead, .dead, .dead, .dead, .dead, .dead, .dead, .dead, .dead, .dead, .dead, .dead, .dead, .dead, .dead, .dead, .dead, .dead, .dead, .dead, .dead, .dead, .dead, .dead, .dead, .dead, .dead, .dead, .dead, .dead, .dead, .dead, .dead, .dead, .dead, .dead, .dead, .dead, .dead, .dead, .dead, .dead, .dead, .dead, .dead, .dead, .dead, .dead, .dead, .dead, .dead, .dead, .dead, .dead, .dead, .dead, .dead, .dead, .dead, .dead, .dead, .dead, .dead, .dead, .dead, .dead, .dead, .dead, .dead, .dead, .dead, .dead, .dead, .dead, .dead, .dead, .dead, .dead, .dead, .dead, .dead, .dead, .dead, .dead, .dead, .dead, .dead, .dead, .dead, .dead, .dead, .dead, .dead, .dead, .dead, .dead, .dead, .dead, .dead, .dead, .dead, .dead, .dead, .dead, .dead, .dead, .dead, .dead, .dead, .dead, .dead, .dead, .dead, .dead, .dead, .dead, .dead, .dead, .dead, .dead, .dead, .dead, .dead, .dead, .dead, .dead, .dead, .dead, .dead, .dead, .dead, .dead, .dead, .dead, .dead, .dead, .dead, .dead, .dead, .dead, .dead, .dead, .dead, .dead])]
def g_lodgelaw11_SoftShifts_1 (N : Nat) : Nat → List Int → Int → Int → (List Int × (Bool × (List Int × Unit))) → (List Int × (Bool × (List Int × Unit))) → Int → Option (List Int × (Int × ((List Int × (Bool × (List Int × Unit))) × ((List Int × (Bool × (List Int × Unit))) × Unit))))
  | 0, _, _, _, _, _, _ => none
  | n + 1, l_0, by_1, n_2, a_8, b_10, i_11 =>
    cond (decide (i_11 < (Nat.cast (List.length (((b_10).2).2).1) : Int)))
      (
      cond (decide ((0 : Int) ≤ i_11))
        (
        cond (decide ((Int.toNat i_11) < (List.length (((b_10).2).2).1)))
          (
          cond (decide (((0 : Nat) + (Int.toNat i_11)) < (List.length (((b_10).2).2).1)))
            (
            cond (decide ((0 : Int) ≤ i_11))
              (
              cond (decide ((Int.toNat i_11) < (List.length (((b_10).2).2).1)))
                (
                cond (decide (((0 : Nat) + (Int.toNat i_11)) < (List.length (((b_10).2).2).1)))
                  (
                  cond (decide ((List.length (a_8).1) = (List.length (a_8).1)))
                    (
                    cond (decide ((List.length (((a_8).2).2).1) = (List.length (((a_8).2).2).1)))
                      (
                      cond (decide ((List.length (b_10).1) = (List.length (b_10).1)))
                        (
                        cond (decide ((List.length (((b_10).2).2).1) = (List.length (List.set (((b_10).2).2).1 ((0 : Nat) + (Int.toNat i_11)) (wi64 ((List.getD (((b_10).2).2).1 ((0 : Nat) + (Int.toNat i_11)) (0 : Int)) + n_2))))))
                          (
                          (g_lodgelaw11_SoftShifts_1 N n l_0 by_1 n_2 a_8 ((b_10).1, (((b_10).2).1, ((List.set (((b_10).2).2).1 ((0 : Nat) + (Int.toNat i_11)) (wi64 ((List.getD (((b_10).2).2).1 ((0 : Nat) + (Int.toNat i_11)) (0 : Int)) + n_2))), ()))) (wi64 (i_11 + (1 : Int)))))
                          (
                          none))
                        (
                        none))
                      (
                      none))
                    (
                    none))
                  (
                  none))
                (
                none))
              (
              none))
            (
            none))
          (
          none))
        (
        none))
      (
      cond (decide ((List.length (a_8).1) = (List.length (a_8).1)))
        (
        cond (decide ((List.length (((a_8).2).2).1) = (List.length (((a_8).2).2).1)))
          (
          cond (decide ((List.length (b_10).1) = (List.length (b_10).1)))
            (
            cond (decide ((List.length (((b_10).2).2).1) = (List.length (((b_10).2).2).1)))
              (
              some (l_0, (by_1, (a_8, (b_10, ())))))
              (
              none))
            (
            none))
          (
          none))
        (
        none))

abbrev h_lodgelaw11_SoftShifts_2 : List Slot := [.data (.sl (.int .i64)), .dead, .dead, .dead, .dead, .dead, .dead, .dead, .box [.d (.st (.pair (.st (.pair (.sl (.int .i64)) .bool)) (.sl (.int .i64))))], .dead, .dead, .dead, .dead, .dead, .box [.d (.sl (.int .i64)), .d .bool, .sl (.int .i64)], .dead, .dead, .dead, .box [.d (.sl (.int .i64)), .d .bool, .sl (.int .i64)], .dead, .data (.int .i64), .data (.int .i64), .dead, .dead, .dead, .dead, .dead, .dead, .dead, .dead, .dead, .dead, .dead, .dead, .dead, .dead, .dead, .dead, .dead, .dead, .dead, .dead, .dead, .dead, .dead, .dead, .dead, .dead, .dead, .dead, .dead, .dead, .dead, .dead, .dead, .dead, .dead, .dead, .dead, .dead, .dead, .dead, .dead, .dead, .dead, .dead, .dead, .dead, .dead, .dead, .dead, .dead, .dead, .dead, .dead, .dead, .dead, .dead, .dead, .dead, .dead, .dead, .dead, .dead, .dead, .dead, .dead, .dead, .dead, .dead, .dead, .dead, .dead, .dead, .dead, .dead, .dead, .dead, .dead, .dead, .dead, .dead, .dead, .dead, .dead, .dead, .dead, .dead, .dead, .dead, .dead, .dead, .dead, .dead, .dead, .dead, .dead, .dead, .dead, .dead, .dead, .dead, .dead, .dead, .dead, .dead, .dead, .dead, .dead, .dead, .dead, .dead, .dead, .dead, .dead, .dead, .dead, .dead, .dead, .dead, .dead, .dead, .dead, .dead, .dead, .dead, .dead, .dead, .dead, .dead, .dead, .dead, .dead, .dead, .dead, .dead, .dead, .dead, .dead, .dead, .dead, .dead, .dead, .dead, .dead, .dead, .dead, .dead, .dead, .dead, .dead, .dead, .dead, .dead, .dead, .dead, .dead, .dead, .dead, .dead, .dead, .dead, .dead, .dead, .dead, .dead, .dead, .dead, .dead, .dead, .dead, .dead, .dead, .dead, .dead, .dead, .dead, .dead, .dead, .dead, .dead, .dead, .dead, .dead, .dead, .dead, .dead, .dead, .dead]
abbrev e_lodgelaw11_SoftShifts_2 : List (AX × List Slot) := [(AX.exit 4, [.data (.sl (.int .i64)), .dead, .dead, .dead, .dead, .dead, .dead, .dead, .dead, .dead, .dead, .dead, .dead, .dead, .dead, .dead, .dead, .dead, .dead, .dead, .data (.int .i64), .dead, .dead, .dead, .dead, .dead, .dead, .dead, .dead, .dead, .dead, .dead, .dead, .dead, .dead, .dead, .dead, .dead, .dead, .dead, .dead, .dead, .dead, .dead, .dead, .dead, .dead, .dead, .dead, .dead, .dead, .dead, .dead, .dead, .dead, .dead, .dead, .dead, .dead, .dead, .dead, .dead, .dead, .dead, .dead, .dead, .dead, .dead, .dead, .dead, .dead, .dead, .dead, .dead, .dead, .dead, .dead, .dead, .dead, .dead, .dead, .dead, .dead, .dead, .dead, .dead, .dead, .dead, .dead, .dead, .dead, .dead, .dead, .dead, .dead, .dead, .dead, .dead, .dead, .dead, .dead, .dead, .dead, .dead, .dead, .dead, .dead, .dead, .dead, .dead, .dead, .dead, .dead, .dead, .dead, .dead, .dead, .dead, .dead, .dead, .dead, .dead, .dead, .dead, .dead, .dead, .dead, .dead, .dead, .dead, .dead, .dead, .dead, .dead, .dead, .dead, .dead, .dead, .dead, .dead, .dead, .dead, .dead, .dead, .dead, .dead, .dead, .dead, .dead, .dead, .dead, .dead, .dead, .dead, .dead, .dead, .dead, .dead, .dead, .dead, .dead, .dead, .dead, .dead, .dead, .dead, .dead, .dead, .dead, .dead, .dead, .dead, .dead, .dead, .dead, .dead, .dead, .dead, .dead, .dead, .dead, .dead, .dead, .dead, .dead, .dead, .dead, .dead, .dead, .dead, .dead, .dead, .dead, .dead, .dead, .dead, .dead, .dead, .dead, .dead, .dead, .dead, .dead, .dead, .dead, .dead, .dead, .dead, .dead]), (AX.ret, [.dead, .dead, .dead, .dead, .dead, .dead, .data .bool, .dead, .dead, .dead, .dead, .dead, .dead, .dead, .dead, .dead, .dead, .dead, .dead, .dead, .dead, .dead, .dead, .dead, .dead, .dead, .dead, .dead, .dead, .dead, .dead, .dead, .dead, .dead, .dead, .dead, .dead, .dead, .dead, .dead, .dead, .dead, .dead, .dead, .dead, .dead, .dead, .dead, .dead, .dead, .dead, .dead, .dead, .dead, .dead, .dead, .dead, .dead, .dead, .dead, .dead, .dead, .dead, .dead, .dead, .dead, .dead, .dead, .dead, .dead, .dead, .dead, .dead, .dead, .dead, .dead, .dead, .dead, .dead, .dead, .dead, .dead, .dead, .dead, .dead, .dead, .dead, .dead, .dead, .dead, .dead, .dead, .dead, .dead, .dead, .dead, .dead, .dead, .dead, .dead, .dead, .dead, .dead, .dead, .dead, .dead, .dead, .dead, .dead, .dead, .dead, .dead, .dead, .dead, .dead, .dead, .dead, .dead, .dead, .dead, .dead, .dead, .dead, .dead, .dead, .dead, .dead, .dead, .dead, .dead, .dead, .dead, .dead, .dead, .dead, .dead, .dead, .dead, .dead, .dead, .dead, .dead, .dead, .dead, .dead, .dead, .dead, .dead, .dead, .dead, .dead, .dead, .dead, .dead, .dead, .dead, .dead, .dead, .dead, .dead, .dead, .dead, .dead, .dead, .dead, .dead, .dead, .dead, .dead, .dead, .dead, .dead, .dead, .dead, .dead, .dead, .dead, .dead, .dead, .dead, .dead, .dead, .dead, .dead, .dead, .dead, .dead, .dead, .dead, .dead, .dead, .dead, .dead, .dead, .dead, .dead, .dead, .dead, .dead, .dead, .dead, .dead, .dead, .dead, .dead, .dead, .dead, .dead, .dead])]
def g_lodgelaw11_SoftShifts_2 (N : Nat) : Nat → List Int → (((List Int × Bool) × List Int) × Unit) → (List Int × (Bool × (List Int × Unit))) → (List Int × (Bool × (List Int × Unit))) → Int → Int → Option (Sum (List Int × (Int × Unit)) (Bool × Unit))
  | 0, _, _, _, _, _, _ => none
  | n + 1, l_0, a_8, x_14, m_18, sum_20, i_21 =>
    cond (decide (i_21 < (Nat.cast (List.length l_0) : Int)))
      (
      cond (decide ((0 : Int) ≤ i_21))
        (
        cond (decide ((Int.toNat i_21) < (List.length (((x_14).2).2).1)))
          (
          cond (decide (((0 : Nat) + (Int.toNat i_21)) < (List.length (((x_14).2).2).1)))
            (
            cond (decide (0 < (List.length (((m_18).2).2).1)))
              (
              cond (decide (((0 : Nat) + 0) < (List.length (((m_18).2).2).1)))
                (
                cond (decide ((0 : Int) ≤ (List.getD (((m_18).2).2).1 ((0 : Nat) + 0) (0 : Int))))
                  (
                  cond (decide ((Int.toNat (List.getD (((m_18).2).2).1 ((0 : Nat) + 0) (0 : Int))) < (List.length (((x_14).2).2).1)))
                    (
                    cond (decide (((0 : Nat) + (Int.toNat (List.getD (((m_18).2).2).1 ((0 : Nat) + 0) (0 : Int)))) < (List.length (((x_14).2).2).1)))
                      (
                      cond (decide ((List.getD (((x_14).2).2).1 ((0 : Nat) + (Int.toNat (List.getD (((m_18).2).2).1 ((0 : Nat) + 0) (0 : Int)))) (0 : Int)) < (List.getD (((x_14).2).2).1 ((0 : Nat) + (Int.toNat i_21)) (0 : Int))))
                        (
                        some (Sum.inr (false, ())))
                        (
                        cond (decide ((0 : Int) ≤ i_21))
                          (
                          cond (decide ((Int.toNat i_21) < (List.length ((a_8).1).2)))
                            (
                            cond (decide (0 < (List.length (((m_18).2).2).1)))
                              (
                              cond (decide (((0 : Nat) + 0) < (List.length (((m_18).2).2).1)))
                                (
                                cond (decide ((0 : Int) ≤ (List.getD (((m_18).2).2).1 ((0 : Nat) + 0) (0 : Int))))
                                  (
                                  cond (decide ((Int.toNat (List.getD (((m_18).2).2).1 ((0 : Nat) + 0) (0 : Int))) < (List.length ((a_8).1).2)))
                                    (
                                    cond (decide ((List.getD ((a_8).1).2 (Int.toNat (List.getD (((m_18).2).2).1 ((0 : Nat) + 0) (0 : Int))) (0 : Int)) < (List.getD ((a_8).1).2 (Int.toNat i_21) (0 : Int))))
                                      (
                                      some (Sum.inr (false, ())))
                                      (
                                      cond (decide ((0 : Int) ≤ i_21))
                                        (
                                        cond (decide ((Int.toNat i_21) < (List.length ((a_8).1).2)))
                                          (
                                          cond (decide (0 < (List.length (((m_18).2).2).1)))
                                            (
                                            cond (decide (((0 : Nat) + 0) < (List.length (((m_18).2).2).1)))
                                              (
                                              cond (decide ((0 : Int) ≤ (List.getD (((m_18).2).2).1 ((0 : Nat) + 0) (0 : Int))))
                                                (
                                                cond (decide ((Int.toNat (List.getD (((m_18).2).2).1 ((0 : Nat) + 0) (0 : Int))) < (List.length ((a_8).1).2)))
                                                  (
                                                  cond (decide ((List.getD ((a_8).1).2 (Int.toNat i_21) (0 : Int)) = (List.getD ((a_8).1).2 (Int.toNat (List.getD (((m_18).2).2).1 ((0 : Nat) + 0) (0 : Int))) (0 : Int))))
                                                    (
                                                    cond (decide (0 < (List.length (((m_18).2).2).1)))
                                                      (
                                                      cond (decide (((0 : Nat) + 0) < (List.length (((m_18).2).2).1)))
                                                        (
                                                        cond (decide (i_21 < (List.getD (((m_18).2).2).1 ((0 : Nat) + 0) (0 : Int))))
                                                          (
                                                          some (Sum.inr (false, ())))
                                                          (
                                                          cond (decide ((0 : Int) ≤ i_21))
                                                            (
                                                            cond (decide ((Int.toNat i_21) < (List.length (((x_14).2).2).1)))
                                                              (
                                                              cond (decide (((0 : Nat) + (Int.toNat i_21)) < (List.length (((x_14).2).2).1)))
                                                                (
                                                                cond (decide ((List.length (((x_14).2).2).1) = (List.length (((x_14).2).2).1)))
                                                                  (
                                                                  cond (decide ((List.length (((m_18).2).2).1) = (List.length (((m_18).2).2).1)))
                                                                    (
                                                                    (g_lodgelaw11_SoftShifts_2 N n l_0 a_8 x_14 m_18 (wi64 ((wi64 (sum_20 + (List.getD (((x_14).2).2).1 ((0 : Nat) + (Int.toNat i_21)) (0 : Int)))) + (128 : Int))) (wi64 (i_21 + (1 : Int)))))
                                                                    (
                                                                    none))
                                                                  (
                                                                  none))
                                                                (
                                                                none))
                                                              (
                                                              none))
                                                            (
                                                            none)))
                                                        (
                                                        none))
                                                      (
                                                      none))
                                                    (
                                                    cond (decide ((0 : Int) ≤ i_21))
                                                      (
                                                      cond (decide ((Int.toNat i_21) < (List.length (((x_14).2).2).1)))
                                                        (
                                                        cond (decide (((0 : Nat) + (Int.toNat i_21)) < (List.length (((x_14).2).2).1)))
                                                          (
                                                          cond (decide ((List.length (((x_14).2).2).1) = (List.length (((x_14).2).2).1)))
                                                            (
                                                            cond (decide ((List.length (((m_18).2).2).1) = (List.length (((m_18).2).2).1)))
                                                              (
                                                              (g_lodgelaw11_SoftShifts_2 N n l_0 a_8 x_14 m_18 (wi64 ((wi64 (sum_20 + (List.getD (((x_14).2).2).1 ((0 : Nat) + (Int.toNat i_21)) (0 : Int)))) + (128 : Int))) (wi64 (i_21 + (1 : Int)))))
                                                              (
                                                              none))
                                                            (
                                                            none))
                                                          (
                                                          none))
                                                        (
                                                        none))
                                                      (
                                                      none)))
                                                  (
                                                  none))
                                                (
                                                none))
                                              (
                                              none))
                                            (
                                            none))
                                          (
                                          none))
                                        (
                                        none)))
                                    (
                                    none))
                                  (
                                  none))
                                (
                                none))
                              (
                              none))
                            (
                            none))
                          (
                          none)))
                      (
                      none))
                    (
                    none))
                  (
                  none))
                (
                none))
              (
              none))
            (
            none))
          (
          none))
        (
        none))
      (
      some (Sum.inl (l_0, (sum_20, ()))))

abbrev j_lodgelaw11_SoftShifts : Joins := [(20, [(AX.normal, [.data (.sl (.int .i64)), .dead, .dead, .dead, .dead, .dead, .dead, .dead, .box [.d (.st (.pair (.st (.pair (.sl (.int .i64)) .bool)) (.sl (.int .i64))))], .dead, .dead, .dead, .dead, .dead, .box [.d (.sl (.int .i64)), .d .bool, .sl (.int .i64)], .dead, .dead, .dead, .box [.d (.sl (.int .i64)), .d .bool, .sl (.int .i64)], .dead, .dead, .dead, .dead, .dead, .dead, .dead, .dead, .dead, .dead, .dead, .dead, .dead, .dead, .dead, .dead, .dead, .dead, .dead, .dead, .dead, .dead, .dead, .dead, .dead, .dead, .dead, .dead, .dead, .dead, .dead, .dead, .dead, .dead, .dead, .dead, .dead, .dead, .dead, .dead, .dead, .dead, .dead, .dead, .dead, .dead, .dead, .dead, .dead, .dead, .dead, .dead, .dead, .dead, .dead, .dead, .dead, .dead, .dead, .dead, .dead, .dead, .dead, .dead, .dead, .dead, .dead, .dead, .dead, .dead, .dead, .dead, .dead, .dead, .dead, .dead, .dead, .dead, .dead, .dead, .dead, .dead, .dead, .dead, .dead, .dead, .dead, .dead, .dead, .dead, .dead, .dead, .dead, .dead, .dead, .dead, .dead, .dead, .dead, .dead, .dead, .dead, .dead, .dead, .dead, .dead, .dead, .dead, .dead, .data .bool, .dead, .dead, .dead, .dead, .dead, .dead, .dead, .dead, .dead, .dead, .dead, .dead, .dead, .dead, .dead, .dead, .dead, .dead, .dead, .dead, .dead, .dead, .dead, .dead, .dead, .dead, .dead, .dead, .dead, .dead, .dead, .dead, .dead, .dead, .dead, .dead, .dead, .dead, .dead, .dead, .dead, .dead, .dead, .dead, .dead, .dead, .dead, .dead, .dead, .dead, .dead, .dead, .dead, .dead, .dead, .dead, .dead, .dead, .dead, .dead, .dead, .dead, .dead, .dead, .dead, .dead, .dead, .dead, .dead, .dead, .dead, .dead, .dead, .dead, .dead, .dead, .dead, .dead, .dead, .dead])]),
  (6, [(AX.normal, [.data (.sl (.int .i64)), .data (.int .i64), .data (.int .i64), .dead, .dead, .dead, .dead, .data .bool, .dead, .dead, .dead, .dead, .dead, .dead, .dead, .dead, .dead, .dead, .dead, .dead, .dead, .dead, .dead, .dead, .dead, .dead, .dead, .dead, .dead, .dead, .dead, .dead, .dead, .dead, .dead, .dead, .data .bool, .dead, .dead, .dead, .dead, .dead, .dead, .dead, .dead, .dead, .dead, .dead, .dead, .dead, .dead, .dead, .dead, .dead, .dead, .dead, .dead, .dead, .dead, .dead, .dead, .dead, .dead, .dead, .dead, .dead, .dead, .dead, .dead, .dead, .dead, .dead, .dead, .dead, .dead, .dead, .dead, .dead, .dead, .dead, .dead, .dead, .dead, .dead, .dead, .dead, .dead, .dead, .dead, .dead, .dead, .dead, .dead, .dead, .dead, .dead, .dead, .dead, .dead, .dead, .dead, .dead, .dead, .dead, .dead, .dead, .dead, .dead, .dead, .dead, .dead, .dead, .dead, .dead, .dead, .dead, .dead, .dead, .dead, .dead, .dead, .dead, .dead, .dead, .dead, .dead, .dead, .dead, .dead, .dead, .dead, .dead, .dead, .dead, .dead, .dead, .dead, .dead, .dead, .dead, .dead, .dead, .dead, .dead, .dead, .dead, .dead, .dead, .dead, .dead, .dead, .dead, .dead, .dead, .dead, .dead, .dead, .dead, .dead, .dead, .dead, .dead, .dead, .dead, .dead, .dead, .dead, .dead, .dead, .dead, .dead, .dead, .dead, .dead, .dead, .dead, .dead, .dead, .dead, .dead, .dead, .dead, .dead, .dead, .dead, .dead, .dead, .dead, .dead, .dead, .dead, .dead, .dead, .dead, .dead, .dead, .dead, .dead, .dead, .dead, .dead, .dead, .dead, .dead, .dead, .dead, .dead, .dead, .dead])])]
def F_lodgelaw11_SoftShifts (N : Nat) (l_0 : List Int) (by_1 : Int) (n_2 : Int) : Option (Bool × Unit) :=
  Option.bind (F_lodgelaw11_first N) fun y0 =>
  cond (Bool.not (y0).1)
    (
    some (false, ()))
    (
    Option.bind (
        cond (decide ((60 : Int) < (Nat.cast (List.length l_0) : Int)))
          (
          some (l_0, (by_1, (n_2, ((y0).1, (true, ()))))))
          (
          cond (decide ((Nat.cast (List.length l_0) : Int) = (0 : Int)))
            (
            some (l_0, (by_1, (n_2, ((y0).1, (true, ()))))))
            (
            some (l_0, (by_1, (n_2, ((y0).1, ((Bool.not (y0).1), ())))))))) fun y1 =>
    cond (((((y1).2).2).2).2).1
      (
      some (((((y1).2).2).2).1, ()))
      (
      Option.bind (g_lodgelaw11_SoftShifts_0 N N (y1).1 ((y1).2).1 (((y1).2).2).1 (((Nat.cast (List.length (y1).1) : Int) :: ([] : List Int)), (false, (([] : List Int), ()))) (0 : Int)) fun y2 =>
      cond (decide (((0 : Nat) + (List.length (((((y2).2).2).2).1).1)) ≤ (List.length (((((y2).2).2).2).1).1)))
        (
        cond (decide (((0 : Nat) + (List.length (((((((y2).2).2).2).1).2).2).1)) ≤ (List.length (((((((y2).2).2).2).1).2).2).1)))
          (
          Option.bind (F_lodgeref_Tensor N (((List.take (List.length (((((y2).2).2).2).1).1) (((((y2).2).2).2).1).1), ((((((y2).2).2).2).1).2).1), (List.take (List.length (((((((y2).2).2).2).1).2).2).1) (((((((y2).2).2).2).1).2).2).1))) fun y3 =>
          Option.bind (F_lodgeworld_Number N (((y2).2).2).1 (120 : Int)) fun y4 =>
          cond (decide ((List.length (((((y2).2).2).2).1).1) = (List.length (((((y2).2).2).2).1).1)))
            (
            cond (decide ((List.length (((((((y2).2).2).2).1).2).2).1) = (List.length (((((((y2).2).2).2).1).2).2).1)))
              (
              cond (decide ((List.length ((y3).1).1) = (List.length ((y3).1).1)))
                (
                cond (decide ((List.length ((((y3).1).2).2).1) = (List.length ((((y3).1).2).2).1)))
                  (
                  Option.bind (g_lodgelaw11_SoftShifts_1 N N (y2).1 ((y2).2).1 (wi64 ((y4).1 - (60 : Int))) ((((y2).2).2).2).1 (y3).1 (0 : Int)) fun y5 =>
                  Option.bind (F_lodgeworld_Number N ((y5).2).1 (98 : Int)) fun y6 =>
                  cond (@Option.isSome Nat (Go.Eng.fbin Go.BinOp.quo (Go.FloatKind.nearest Go.FloatKind.f64 (wi64 ((y6).1 + (1 : Int)))) (4636737291354636288 : Nat)))
                    (
                    Option.bind (F_soft_Table N (@Option.getD Nat (Go.Eng.fbin Go.BinOp.quo (Go.FloatKind.nearest Go.FloatKind.f64 (wi64 ((y6).1 + (1 : Int)))) (4636737291354636288 : Nat)) (0 : Nat))) fun y7 =>
                    cond (decide (((0 : Nat) + (List.length ((((y5).2).2).1).1)) ≤ (List.length ((((y5).2).2).1).1)))
                      (
                      cond (decide (((0 : Nat) + (List.length ((((((y5).2).2).1).2).2).1)) ≤ (List.length ((((((y5).2).2).1).2).2).1)))
                        (
                        cond (decide (((0 : Nat) + (List.length ((y7).1).1)) ≤ (List.length ((y7).1).1)))
                          (
                          cond (decide (((0 : Nat) + (List.length ((((y7).1).2).2).1)) ≤ (List.length ((((y7).1).2).2).1)))
                            (
                            Option.bind (F_soft_Softmax N (((List.take (List.length ((((y5).2).2).1).1) ((((y5).2).2).1).1), (((((y5).2).2).1).2).1), (List.take (List.length ((((((y5).2).2).1).2).2).1) ((((((y5).2).2).1).2).2).1)) (((List.take (List.length ((y7).1).1) ((y7).1).1), (((y7).1).2).1), (List.take (List.length ((((y7).1).2).2).1) ((((y7).1).2).2).1))) fun y8 =>
                            cond (decide (((0 : Nat) + (List.length (((((y5).2).2).2).1).1)) ≤ (List.length (((((y5).2).2).2).1).1)))
                              (
                              cond (decide (((0 : Nat) + (List.length (((((((y5).2).2).2).1).2).2).1)) ≤ (List.length (((((((y5).2).2).2).1).2).2).1)))
                                (
                                cond (decide (((0 : Nat) + (List.length ((y7).1).1)) ≤ (List.length ((y7).1).1)))
                                  (
                                  cond (decide (((0 : Nat) + (List.length ((((y7).1).2).2).1)) ≤ (List.length ((((y7).1).2).2).1)))
                                    (
                                    Option.bind (F_soft_Softmax N (((List.take (List.length (((((y5).2).2).2).1).1) (((((y5).2).2).2).1).1), ((((((y5).2).2).2).1).2).1), (List.take (List.length (((((((y5).2).2).2).1).2).2).1) (((((((y5).2).2).2).1).2).2).1)) (((List.take (List.length ((y7).1).1) ((y7).1).1), (((y7).1).2).1), (List.take (List.length ((((y7).1).2).2).1) ((((y7).1).2).2).1))) fun y9 =>
                                    cond (decide (((0 : Nat) + (List.length ((((y5).2).2).1).1)) ≤ (List.length ((((y5).2).2).1).1)))
                                      (
                                      cond (decide (((0 : Nat) + (List.length ((((((y5).2).2).1).2).2).1)) ≤ (List.length ((((((y5).2).2).1).2).2).1)))
                                        (
                                        Option.bind (F_soft_ArgMax N (((List.take (List.length ((((y5).2).2).1).1) ((((y5).2).2).1).1), (((((y5).2).2).1).2).1), (List.take (List.length ((((((y5).2).2).1).2).2).1) ((((((y5).2).2).1).2).2).1))) fun y10 =>
                                        Option.bind (
                                            cond (Bool.not (Go.Eng.Er.isNil ((y7).2).1))
                                              (
                                              cond (decide (((0 : Nat) + (List.length ((((y5).2).2).1).1)) ≤ (List.length ((((y5).2).2).1).1)))
                                                (
                                                cond (decide (((0 : Nat) + (List.length ((((((y5).2).2).1).2).2).1)) ≤ (List.length ((((((y5).2).2).1).2).2).1)))
                                                  (
                                                  cond (decide (((0 : Nat) + (List.length ((((y5).2).2).1).1)) ≤ (List.length ((((y5).2).2).1).1)))
                                                    (
                                                    cond (decide (((0 : Nat) + (List.length ((((((y5).2).2).1).2).2).1)) ≤ (List.length ((((((y5).2).2).1).2).2).1)))
                                                      (
                                                      cond (decide ((List.length ((((y8).1).2).2).1) = (List.length ((((y8).1).2).2).1)))
                                                        (
                                                        cond (decide ((List.length ((((y10).1).2).2).1) = (List.length ((((y10).1).2).2).1)))
                                                          (
                                                          some ((y5).1, (((((List.take (List.length ((((y5).2).2).1).1) ((((y5).2).2).1).1), (((((y5).2).2).1).2).1), (List.take (List.length ((((((y5).2).2).1).2).2).1) ((((((y5).2).2).1).2).2).1)), ()), ((y8).1, ((y10).1, (true, ()))))))
                                                          (
                                                          none))
                                                        (
                                                        none))
                                                      (
                                                      none))
                                                    (
                                                    none))
                                                  (
                                                  none))
                                                (
                                                none))
                                              (
                                              cond (Bool.not (Go.Eng.Er.isNil ((y8).2).1))
                                                (
                                                cond (decide (((0 : Nat) + (List.length ((((y5).2).2).1).1)) ≤ (List.length ((((y5).2).2).1).1)))
                                                  (
                                                  cond (decide (((0 : Nat) + (List.length ((((((y5).2).2).1).2).2).1)) ≤ (List.length ((((((y5).2).2).1).2).2).1)))
                                                    (
                                                    cond (decide (((0 : Nat) + (List.length ((((y5).2).2).1).1)) ≤ (List.length ((((y5).2).2).1).1)))
                                                      (
                                                      cond (decide (((0 : Nat) + (List.length ((((((y5).2).2).1).2).2).1)) ≤ (List.length ((((((y5).2).2).1).2).2).1)))
                                                        (
                                                        cond (decide ((List.length ((((y8).1).2).2).1) = (List.length ((((y8).1).2).2).1)))
                                                          (
                                                          cond (decide ((List.length ((((y10).1).2).2).1) = (List.length ((((y10).1).2).2).1)))
                                                            (
                                                            some ((y5).1, (((((List.take (List.length ((((y5).2).2).1).1) ((((y5).2).2).1).1), (((((y5).2).2).1).2).1), (List.take (List.length ((((((y5).2).2).1).2).2).1) ((((((y5).2).2).1).2).2).1)), ()), ((y8).1, ((y10).1, (true, ()))))))
                                                            (
                                                            none))
                                                          (
                                                          none))
                                                        (
                                                        none))
                                                      (
                                                      none))
                                                    (
                                                    none))
                                                  (
                                                  none))
                                                (
                                                cond (Bool.not (Go.Eng.Er.isNil ((y9).2).1))
                                                  (
                                                  cond (decide (((0 : Nat) + (List.length ((((y5).2).2).1).1)) ≤ (List.length ((((y5).2).2).1).1)))
                                                    (
                                                    cond (decide (((0 : Nat) + (List.length ((((((y5).2).2).1).2).2).1)) ≤ (List.length ((((((y5).2).2).1).2).2).1)))
                                                      (
                                                      cond (decide (((0 : Nat) + (List.length ((((y5).2).2).1).1)) ≤ (List.length ((((y5).2).2).1).1)))
                                                        (
                                                        cond (decide (((0 : Nat) + (List.length ((((((y5).2).2).1).2).2).1)) ≤ (List.length ((((((y5).2).2).1).2).2).1)))
                                                          (
                                                          cond (decide ((List.length ((((y8).1).2).2).1) = (List.length ((((y8).1).2).2).1)))
                                                            (
                                                            cond (decide ((List.length ((((y10).1).2).2).1) = (List.length ((((y10).1).2).2).1)))
                                                              (
                                                              some ((y5).1, (((((List.take (List.length ((((y5).2).2).1).1) ((((y5).2).2).1).1), (((((y5).2).2).1).2).1), (List.take (List.length ((((((y5).2).2).1).2).2).1) ((((((y5).2).2).1).2).2).1)), ()), ((y8).1, ((y10).1, (true, ()))))))
                                                              (
                                                              none))
                                                            (
                                                            none))
                                                          (
                                                          none))
                                                        (
                                                        none))
                                                      (
                                                      none))
                                                    (
                                                    none))
                                                  (
                                                  cond (Bool.not (Go.Eng.Er.isNil ((y10).2).1))
                                                    (
                                                    cond (decide (((0 : Nat) + (List.length ((((y5).2).2).1).1)) ≤ (List.length ((((y5).2).2).1).1)))
                                                      (
                                                      cond (decide (((0 : Nat) + (List.length ((((((y5).2).2).1).2).2).1)) ≤ (List.length ((((((y5).2).2).1).2).2).1)))
                                                        (
                                                        cond (decide (((0 : Nat) + (List.length ((((y5).2).2).1).1)) ≤ (List.length ((((y5).2).2).1).1)))
                                                          (
                                                          cond (decide (((0 : Nat) + (List.length ((((((y5).2).2).1).2).2).1)) ≤ (List.length ((((((y5).2).2).1).2).2).1)))
                                                            (
                                                            cond (decide ((List.length ((((y8).1).2).2).1) = (List.length ((((y8).1).2).2).1)))
                                                              (
                                                              cond (decide ((List.length ((((y10).1).2).2).1) = (List.length ((((y10).1).2).2).1)))
                                                                (
                                                                some ((y5).1, (((((List.take (List.length ((((y5).2).2).1).1) ((((y5).2).2).1).1), (((((y5).2).2).1).2).1), (List.take (List.length ((((((y5).2).2).1).2).2).1) ((((((y5).2).2).1).2).2).1)), ()), ((y8).1, ((y10).1, (true, ()))))))
                                                                (
                                                                none))
                                                              (
                                                              none))
                                                            (
                                                            none))
                                                          (
                                                          none))
                                                        (
                                                        none))
                                                      (
                                                      none))
                                                    (
                                                    cond (decide (((0 : Nat) + (List.length ((((y8).1).2).2).1)) ≤ (List.length ((((y8).1).2).2).1)))
                                                      (
                                                      cond (decide (((0 : Nat) + (List.length ((((y9).1).2).2).1)) ≤ (List.length ((((y9).1).2).2).1)))
                                                        (
                                                        Option.bind (F_lodgeref_SameTensor N ((((y8).1).1, (((y8).1).2).1), (List.take (List.length ((((y8).1).2).2).1) ((((y8).1).2).2).1)) ((((y9).1).1, (((y9).1).2).1), (List.take (List.length ((((y9).1).2).2).1) ((((y9).1).2).2).1))) fun y11 =>
                                                        cond (decide (((0 : Nat) + (List.length ((((y5).2).2).1).1)) ≤ (List.length ((((y5).2).2).1).1)))
                                                          (
                                                          cond (decide (((0 : Nat) + (List.length ((((((y5).2).2).1).2).2).1)) ≤ (List.length ((((((y5).2).2).1).2).2).1)))
                                                            (
                                                            cond (decide (((0 : Nat) + (List.length ((((y5).2).2).1).1)) ≤ (List.length ((((y5).2).2).1).1)))
                                                              (
                                                              cond (decide (((0 : Nat) + (List.length ((((((y5).2).2).1).2).2).1)) ≤ (List.length ((((((y5).2).2).1).2).2).1)))
                                                                (
                                                                cond (decide ((List.length ((((y8).1).2).2).1) = (List.length ((((y8).1).2).2).1)))
                                                                  (
                                                                  cond (decide ((List.length ((((y10).1).2).2).1) = (List.length ((((y10).1).2).2).1)))
                                                                    (
                                                                    some ((y5).1, (((((List.take (List.length ((((y5).2).2).1).1) ((((y5).2).2).1).1), (((((y5).2).2).1).2).1), (List.take (List.length ((((((y5).2).2).1).2).2).1) ((((((y5).2).2).1).2).2).1)), ()), ((y8).1, ((y10).1, ((Bool.not (y11).1), ()))))))
                                                                    (
                                                                    none))
                                                                  (
                                                                  none))
                                                                (
                                                                none))
                                                              (
                                                              none))
                                                            (
                                                            none))
                                                          (
                                                          none))
                                                        (
                                                        none))
                                                      (
                                                      none)))))) fun y12 =>
                                        cond (((((y12).2).2).2).2).1
                                          (
                                          some (false, ()))
                                          (
                                          cond (decide ((List.length ((((((y12).2).2).1).2).2).1) = (List.length ((((((y12).2).2).1).2).2).1)))
                                            (
                                            cond (decide ((List.length (((((((y12).2).2).2).1).2).2).1) = (List.length (((((((y12).2).2).2).1).2).2).1)))
                                              (
                                              Option.bind (g_lodgelaw11_SoftShifts_2 N N (y12).1 ((y12).2).1 (((y12).2).2).1 ((((y12).2).2).2).1 (0 : Int) (0 : Int)) fun y13 =>
                                              Sum.elim (fun y14 =>
                                                cond (decide ((wi64 ((255 : Int) - (Nat.cast (List.length (y14).1) : Int))) ≤ ((y14).2).1))
                                                  (
                                                  some ((decide (((y14).2).1 ≤ (wi64 ((255 : Int) + (Nat.cast (List.length (y14).1) : Int))))), ()))
                                                  (
                                                  some (false, ())))
                                                (fun y15 =>
                                                some y15) y13)
                                              (
                                              none))
                                            (
                                            none)))
                                        (
                                        none))
                                      (
                                      none))
                                    (
                                    none))
                                  (
                                  none))
                                (
                                none))
                              (
                              none))
                            (
                            none))
                          (
                          none))
                        (
                        none))
                      (
                      none))
                    (
                    none))
                  (
                  none))
                (
                none))
              (
              none))
            (
            none))
          (
          none))
        (
        none)))

abbrev c_lodgelaw11_SoftShifts (N : Nat) : CallSpec := ⟨5, ps_lodgelaw11_SoftShifts, rs_lodgelaw11_SoftShifts, fun x => F_lodgelaw11_SoftShifts N x.1 x.2.1 x.2.2.1⟩
abbrev l_lodgelaw11_SoftShifts_2 (N : Nat) : LoopSpec := ⟨2, h_lodgelaw11_SoftShifts_2, e_lodgelaw11_SoftShifts_2, fun x => g_lodgelaw11_SoftShifts_2 N N x.1 x.2.1 x.2.2.1 x.2.2.2.1 x.2.2.2.2.1 x.2.2.2.2.2.1⟩
abbrev l_lodgelaw11_SoftShifts_1 (N : Nat) : LoopSpec := ⟨1, h_lodgelaw11_SoftShifts_1, e_lodgelaw11_SoftShifts_1, fun x => g_lodgelaw11_SoftShifts_1 N N x.1 x.2.1 x.2.2.1 x.2.2.2.1 x.2.2.2.2.1 x.2.2.2.2.2.1⟩
abbrev l_lodgelaw11_SoftShifts_0 (N : Nat) : LoopSpec := ⟨0, h_lodgelaw11_SoftShifts_0, e_lodgelaw11_SoftShifts_0, fun x => g_lodgelaw11_SoftShifts_0 N N x.1 x.2.1 x.2.2.1 x.2.2.2.1 x.2.2.2.2.1⟩

theorem cs_lodgelaw11_SoftShifts_ok (S : Nat → Addr) (N : Nat) : CallsOK Go.Proofs.Tryd.prog E S (cs_lodgelaw11_SoftShifts N) :=
  .cons (F_soft_Table_ok S N) (.cons (F_soft_Softmax_ok S N) (.cons (F_lodgelaw11_first_ok S N) (.cons (F_lodgeworld_Number_ok S N) (.cons (F_lodgeref_Tensor_ok S N) (.cons (F_soft_ArgMax_ok S N) (.cons (F_lodgeref_SameTensor_ok S N) (.nil)))))))
noncomputable abbrev b_lodgelaw11_SoftShifts_2 : Code := (loopsOf b_lodgelaw11_SoftShifts).getD 2 .skip
theorem g_lodgelaw11_SoftShifts_2_ok (S : Nat → Addr) (N : Nat) : ∀ n x y, (fun (x : Val (slotsTy h_lodgelaw11_SoftShifts_2)) => g_lodgelaw11_SoftShifts_2 N n x.1 x.2.1 x.2.2.1 x.2.2.2.1 x.2.2.2.2.1 x.2.2.2.2.2.1) x = some y → LoopCon Go.Proofs.Tryd.prog E S b_lodgelaw11_SoftShifts_2 (encSlots h_lodgelaw11_SoftShifts_2 x) (encEx e_lodgelaw11_SoftShifts_2 y).1 (encEx e_lodgelaw11_SoftShifts_2 y).2 :=
  loop_spec E_ok mixed (cs_lodgelaw11_SoftShifts_ok S N) (all := loopsOf b_lodgelaw11_SoftShifts) (ls := []) (.nil) (i := 2) (by kernel_rfl) (inner_of (by kernel_rfl)) (head := h_lodgelaw11_SoftShifts_2) (ex := e_lodgelaw11_SoftShifts_2) (fun n (x : Val (slotsTy h_lodgelaw11_SoftShifts_2)) => g_lodgelaw11_SoftShifts_2 N n x.1 x.2.1 x.2.2.1 x.2.2.2.1 x.2.2.2.2.1 x.2.2.2.2.2.1) (fun _ => rfl) (fun n x => by kernel_rfl)
noncomputable abbrev b_lodgelaw11_SoftShifts_1 : Code := (loopsOf b_lodgelaw11_SoftShifts).getD 1 .skip
theorem g_lodgelaw11_SoftShifts_1_ok (S : Nat → Addr) (N : Nat) : ∀ n x y, (fun (x : Val (slotsTy h_lodgelaw11_SoftShifts_1)) => g_lodgelaw11_SoftShifts_1 N n x.1 x.2.1 x.2.2.1 x.2.2.2.1 x.2.2.2.2.1 x.2.2.2.2.2.1) x = some y → LoopCon Go.Proofs.Tryd.prog E S b_lodgelaw11_SoftShifts_1 (encSlots h_lodgelaw11_SoftShifts_1 x) (encEx e_lodgelaw11_SoftShifts_1 y).1 (encEx e_lodgelaw11_SoftShifts_1 y).2 :=
  loop_spec E_ok mixed (cs_lodgelaw11_SoftShifts_ok S N) (all := loopsOf b_lodgelaw11_SoftShifts) (ls := []) (.nil) (i := 1) (by kernel_rfl) (inner_of (by kernel_rfl)) (head := h_lodgelaw11_SoftShifts_1) (ex := e_lodgelaw11_SoftShifts_1) (fun n (x : Val (slotsTy h_lodgelaw11_SoftShifts_1)) => g_lodgelaw11_SoftShifts_1 N n x.1 x.2.1 x.2.2.1 x.2.2.2.1 x.2.2.2.2.1 x.2.2.2.2.2.1) (fun _ => rfl) (fun n x => by kernel_rfl)
noncomputable abbrev b_lodgelaw11_SoftShifts_0 : Code := (loopsOf b_lodgelaw11_SoftShifts).getD 0 .skip
theorem g_lodgelaw11_SoftShifts_0_ok (S : Nat → Addr) (N : Nat) : ∀ n x y, (fun (x : Val (slotsTy h_lodgelaw11_SoftShifts_0)) => g_lodgelaw11_SoftShifts_0 N n x.1 x.2.1 x.2.2.1 x.2.2.2.1 x.2.2.2.2.1) x = some y → LoopCon Go.Proofs.Tryd.prog E S b_lodgelaw11_SoftShifts_0 (encSlots h_lodgelaw11_SoftShifts_0 x) (encEx e_lodgelaw11_SoftShifts_0 y).1 (encEx e_lodgelaw11_SoftShifts_0 y).2 :=
  loop_spec E_ok mixed (cs_lodgelaw11_SoftShifts_ok S N) (all := loopsOf b_lodgelaw11_SoftShifts) (ls := []) (.nil) (i := 0) (by kernel_rfl) (inner_of (by kernel_rfl)) (head := h_lodgelaw11_SoftShifts_0) (ex := e_lodgelaw11_SoftShifts_0) (fun n (x : Val (slotsTy h_lodgelaw11_SoftShifts_0)) => g_lodgelaw11_SoftShifts_0 N n x.1 x.2.1 x.2.2.1 x.2.2.2.1 x.2.2.2.2.1) (fun _ => rfl) (fun n x => by kernel_rfl)
theorem F_lodgelaw11_SoftShifts_ok (S : Nat → Addr) (N : Nat) : ∀ x y, (c_lodgelaw11_SoftShifts N).g x = some y → FCon Go.Proofs.Tryd.prog E S 5 ps_lodgelaw11_SoftShifts rs_lodgelaw11_SoftShifts x y := by
  intro x y h
  exact fun_specJ E_ok mixed (cs_lodgelaw11_SoftShifts_ok S N) (f := 5) (fi := ⟨b_lodgelaw11_SoftShifts, 209, Go.Proofs.Tryd.f5.results.toList⟩) (by kernel_rfl) (ls := [l_lodgelaw11_SoftShifts_2 N, l_lodgelaw11_SoftShifts_1 N, l_lodgelaw11_SoftShifts_0 N]) (.cons (by kernel_rfl) (g_lodgelaw11_SoftShifts_2_ok S N N) (.cons (by kernel_rfl) (g_lodgelaw11_SoftShifts_1_ok S N N) (.cons (by kernel_rfl) (g_lodgelaw11_SoftShifts_0_ok S N N) (.nil)))) (js := j_lodgelaw11_SoftShifts) (by kernel_rfl) (ps := ps_lodgelaw11_SoftShifts) (rs := rs_lodgelaw11_SoftShifts) (Eq.trans (b := F_lodgelaw11_SoftShifts N x.1 x.2.1 x.2.2.1) (by kernel_rfl) h)

/-! lodge/soft.Gather -/

abbrev ps_soft_Gather : List Ty := [(.st (.pair (.st (.pair (.sl (.int .i64)) .bool)) (.sl (.int .i64)))), (.st (.pair (.st (.pair (.sl (.int .i64)) .bool)) (.sl (.int .i64))))]
abbrev rs_soft_Gather : List Slot := [.ag [.d (.sl (.int .i64)), .d .bool, .sl (.int .i64)], .data .err]
abbrev cs_soft_Gather (N : Nat) : List CallSpec := [c_soft_do N]
noncomputable abbrev b_soft_Gather : Code := (Go.Proofs.Tryd.f18.body).getD .skip

def F_soft_Gather (N : Nat) (a_0 : ((List Int × Bool) × List Int)) (at_1 : ((List Int × Bool) × List Int)) : Option ((List Int × (Bool × (List Int × Unit))) × (Er × Unit)) :=
  Option.bind (F_soft_do N (17 : Int) (a_0 :: (at_1 :: ([] : List (((List Int) × Bool) × (List Int)))))) fun y0 =>
  cond (decide ((List.length ((((y0).1).2).2).1) = (List.length ((((y0).1).2).2).1)))
    (
    some y0)
    (
    none)

abbrev c_soft_Gather (N : Nat) : CallSpec := ⟨18, ps_soft_Gather, rs_soft_Gather, fun x => F_soft_Gather N x.1 x.2.1⟩

theorem cs_soft_Gather_ok (S : Nat → Addr) (N : Nat) : CallsOK Go.Proofs.Tryd.prog E S (cs_soft_Gather N) :=
  .cons (F_soft_do_ok S N) (.nil)
theorem F_soft_Gather_ok (S : Nat → Addr) (N : Nat) : ∀ x y, (c_soft_Gather N).g x = some y → FCon Go.Proofs.Tryd.prog E S 18 ps_soft_Gather rs_soft_Gather x y := by
  intro x y h
  exact fun_spec E_ok mixed (cs_soft_Gather_ok S N) (f := 18) (fi := ⟨b_soft_Gather, 12, Go.Proofs.Tryd.f18.results.toList⟩) (by kernel_rfl) (ls := []) (.nil) (by kernel_rfl) (ps := ps_soft_Gather) (rs := rs_soft_Gather) (Eq.trans (b := F_soft_Gather N x.1 x.2.1) (by kernel_rfl) h)

/-! lodge/soft.Cell -/

abbrev ps_soft_Cell : List Ty := [(.int .i64), (.int .i64), (.sl (.st (.pair (.st (.pair (.sl (.int .i64)) .bool)) (.sl (.int .i64)))))]
abbrev rs_soft_Cell : List Slot := [.data (.int .i64)]
abbrev cs_soft_Cell (N : Nat) : List CallSpec := [c_shape_Elems N, c_soft_result N, c_soft_reads N, c_soft_At N]
noncomputable abbrev b_soft_Cell : Code := (Go.Proofs.Tryd.f19.body).getD .skip

def F_soft_Cell (N : Nat) (op_0 : Int) (i_1 : Int) (ins_2 : List (((List Int × Bool) × List Int))) : Option (Int × Unit) :=
  Option.bind (F_soft_result N op_0 ins_2) fun y0 =>
  cond (Bool.not (Go.Eng.Er.isNil (((y0).2).2).1))
    (
    some ((0 : Int), ()))
    (
    cond (decide (i_1 < (0 : Int)))
      (
      some ((0 : Int), ()))
      (
      Option.bind (F_shape_Elems N ((y0).1).1) fun y1 =>
      cond (decide ((y1).1 ≤ i_1))
        (
        some ((0 : Int), ()))
        (
        Option.bind (F_soft_reads N ins_2) fun y2 =>
        cond (decide (((0 : Nat) + (List.length (y2).1)) ≤ (List.length (y2).1)))
          (
          Option.bind (F_soft_At N op_0 i_1 ((y0).2).1 (List.take (List.length (y2).1) (y2).1)) fun y3 =>
          some y3)
          (
          none))))

abbrev c_soft_Cell (N : Nat) : CallSpec := ⟨19, ps_soft_Cell, rs_soft_Cell, fun x => F_soft_Cell N x.1 x.2.1 x.2.2.1⟩

theorem cs_soft_Cell_ok (S : Nat → Addr) (N : Nat) : CallsOK Go.Proofs.Tryd.prog E S (cs_soft_Cell N) :=
  .cons (F_shape_Elems_ok S N) (.cons (F_soft_result_ok S N) (.cons (F_soft_reads_ok S N) (.cons (F_soft_At_ok S N) (.nil))))
theorem F_soft_Cell_ok (S : Nat → Addr) (N : Nat) : ∀ x y, (c_soft_Cell N).g x = some y → FCon Go.Proofs.Tryd.prog E S 19 ps_soft_Cell rs_soft_Cell x y := by
  intro x y h
  exact fun_spec E_ok mixed (cs_soft_Cell_ok S N) (f := 19) (fi := ⟨b_soft_Cell, 36, Go.Proofs.Tryd.f19.results.toList⟩) (by kernel_rfl) (ls := []) (.nil) (by kernel_rfl) (ps := ps_soft_Cell) (rs := rs_soft_Cell) (Eq.trans (b := F_soft_Cell N x.1 x.2.1 x.2.2.1) (by kernel_rfl) h)

/-! lodge/lodgelaw11.SoftGathers -/

abbrev ps_lodgelaw11_SoftGathers : List Ty := [(.int .i64), (.int .i64), (.sl (.int .i64))]
abbrev rs_lodgelaw11_SoftGathers : List Slot := [.data .bool]
abbrev cs_lodgelaw11_SoftGathers (N : Nat) : List CallSpec := [c_lodgelaw11_first N, c_lodgeworld_Number N, c_soft_Gather N, c_soft_Cell N]
noncomputable abbrev b_lodgelaw11_SoftGathers : Code := (Go.Proofs.Tryd.f6.body).getD .skip

abbrev h_lodgelaw11_SoftGathers_0 : List Slot := [.data (.int .i64), .data (.int .i64), .data (.sl (.int .i64)), .dead, .dead, .dead, .dead, .dead, .box [.sl (.int .i64), .d .bool, .sl (.int .i64)], .data (.int .i64), .dead, .dead, .dead, .dead, .dead, .dead, .dead, .dead, .dead, .dead, .dead, .dead, .dead, .dead, .dead, .dead, .dead, .dead, .dead, .dead, .dead, .dead, .dead, .dead, .dead, .dead, .dead, .dead, .dead, .dead, .dead, .dead, .dead, .dead, .dead, .dead, .dead, .dead, .dead, .dead, .dead, .dead, .dead, .dead, .dead, .dead, .dead, .dead, .dead, .dead, .dead, .dead, .dead, .dead, .dead, .dead, .dead, .dead, .dead, .dead, .dead, .dead, .dead, .dead, .dead, .dead, .dead, .dead, .dead, .dead, .dead, .dead, .dead, .dead, .dead, .dead, .dead, .dead, .dead, .dead, .dead, .dead, .dead, .dead, .dead, .dead, .dead, .dead, .dead, .dead, .dead, .dead, .dead, .dead, .dead, .dead, .dead, .dead, .dead, .dead, .dead, .dead, .dead, .dead, .dead, .dead, .dead, .dead, .dead, .dead, .dead, .dead, .dead, .dead, .dead, .dead, .dead, .dead, .dead, .dead, .dead, .dead, .dead, .dead, .dead, .dead, .dead, .dead, .dead, .dead, .dead, .dead, .dead, .dead, .dead, .dead]
abbrev e_lodgelaw11_SoftGathers_0 : List (AX × List Slot) := [(AX.exit 0, [.data (.int .i64), .data (.int .i64), .data (.sl (.int .i64)), .dead, .dead, .dead, .dead, .dead, .box [.sl (.int .i64), .d .bool, .sl (.int .i64)], .dead, .dead, .dead, .dead, .dead, .dead, .dead, .dead, .dead, .dead, .dead, .dead, .dead, .dead, .dead, .dead, .dead, .dead, .dead, .dead, .dead, .dead, .dead, .dead, .dead, .dead, .dead, .dead, .dead, .dead, .dead, .dead, .dead, .dead, .dead, .dead, .dead, .dead, .dead, .dead, .dead, .dead, .dead, .dead, .dead, .dead, .dead, .dead, .dead, .dead, .dead, .dead, .dead, .dead, .dead, .dead, .dead, .dead, .dead, .dead, .dead, .dead, .dead, .dead, .dead, .dead, .dead, .dead, .dead, .dead, .dead, .dead, .dead, .dead, .dead, .dead, .dead, .dead, .dead, .dead, .dead, .dead, .dead, .dead, .dead, .dead, .dead, .dead, .dead, .dead, .dead, .dead, .dead, .dead, .dead, .dead, .dead, .dead, .dead, .dead, .dead, .dead, .dead, .dead, .dead, .dead, .dead, .dead, .dead, .dead, .dead, .dead, .dead, .dead, .dead, .dead, .dead, .dead, .dead, .dead, .dead, .dead, .dead, .dead, .dead, .dead, .dead, .dead, .dead, .dead, .dead, .dead, .dead, .dead, .dead, .dead, .dead])]
def g_lodgelaw11_SoftGathers_0 (N : Nat) : Nat → Int → Int → List Int → (List Int × (Bool × (List Int × Unit))) → Int → Option (Int × (Int × (List Int × ((List Int × (Bool × (List Int × Unit))) × Unit))))
  | 0, _, _, _, _, _ => none
  | n + 1, n_0, d_1, at_2, a_8, i_9 =>
    cond (decide (i_9 < (wi64 (n_0 * d_1))))
      (
      cond (decide (((0 : Nat) + (List.length (((a_8).2).2).1)) = (List.length (((a_8).2).2).1)))
        (
        cond (decide ((((List.length (((a_8).2).2).1) + 1) * (8 + (1 : Nat))) ≤ Go.Eng.most))
          (
          cond (decide ((List.length (a_8).1) = (List.length (a_8).1)))
            (
            cond (decide (((List.length (((a_8).2).2).1) + 1) = (List.length ((List.take (List.length (((a_8).2).2).1) (((a_8).2).2).1) ++ ((wi64 ((Int.tmod i_9 (256 : Int)) - (128 : Int))) :: ([] : List Int))))))
              (
              (g_lodgelaw11_SoftGathers_0 N n n_0 d_1 at_2 ((a_8).1, (((a_8).2).1, (((List.take (List.length (((a_8).2).2).1) (((a_8).2).2).1) ++ ((wi64 ((Int.tmod i_9 (256 : Int)) - (128 : Int))) :: ([] : List Int))), ()))) (wi64 (i_9 + (1 : Int)))))
              (
              none))
            (
            none))
          (
          none))
        (
        none))
      (
      cond (decide ((List.length (a_8).1) = (List.length (a_8).1)))
        (
        cond (decide ((List.length (((a_8).2).2).1) = (List.length (((a_8).2).2).1)))
          (
          some (n_0, (d_1, (at_2, (a_8, ())))))
          (
          none))
        (
        none))

abbrev h_lodgelaw11_SoftGathers_1 : List Slot := [.data (.int .i64), .data (.int .i64), .data (.sl (.int .i64)), .dead, .dead, .dead, .dead, .dead, .box [.sl (.int .i64), .d .bool, .sl (.int .i64)], .dead, .box [.sl (.int .i64), .d .bool, .sl (.int .i64)], .data (.int .i64), .dead, .dead, .dead, .dead, .dead, .dead, .dead, .dead, .dead, .dead, .dead, .dead, .dead, .dead, .dead, .dead, .dead, .dead, .dead, .dead, .dead, .dead, .dead, .dead, .dead, .dead, .dead, .dead, .dead, .dead, .dead, .dead, .dead, .dead, .dead, .dead, .dead, .dead, .dead, .dead, .dead, .dead, .dead, .dead, .dead, .dead, .dead, .dead, .dead, .dead, .dead, .dead, .dead, .dead, .dead, .dead, .dead, .dead, .dead, .dead, .dead, .dead, .dead, .dead, .dead, .dead, .dead, .dead, .dead, .dead, .dead, .dead, .dead, .dead, .dead, .dead, .dead, .dead, .dead, .dead, .dead, .dead, .dead, .dead, .dead, .dead, .dead, .dead, .dead, .dead, .dead, .dead, .dead, .dead, .dead, .dead, .dead, .dead, .dead, .dead, .dead, .dead, .dead, .dead, .dead, .dead, .dead, .dead, .dead, .dead, .dead, .dead, .dead, .dead, .dead, .dead, .dead, .dead, .dead, .dead, .dead, .dead, .dead, .dead, .dead, .dead, .dead, .dead, .dead, .dead, .dead, .dead, .dead, .dead]
abbrev e_lodgelaw11_SoftGathers_1 : List (AX × List Slot) := [(AX.exit 2, [.data (.int .i64), .data (.int .i64), .data (.sl (.int .i64)), .dead, .dead, .dead, .dead, .dead, .box [.sl (.int .i64), .d .bool, .sl (.int .i64)], .dead, .box [.sl (.int .i64), .d .bool, .sl (.int .i64)], .dead, .dead, .dead, .dead, .dead, .dead, .dead, .dead, .dead, .dead, .dead, .dead, .dead, .dead, .dead, .dead, .dead, .dead, .dead, .dead, .dead, .dead, .dead, .dead, .dead, .dead, .dead, .dead, .dead, .dead, .dead, .dead, .dead, .dead, .dead, .dead, .dead, .dead, .dead, .dead, .dead, .dead, .dead, .dead, .dead, .dead, .dead, .dead, .dead, .dead, .dead, .dead, .dead, .dead, .dead, .dead, .dead, .dead, .dead, .dead, .dead, .dead, .dead, .dead, .dead, .dead, .dead, .dead, .dead, .dead, .dead, .dead, .dead, .dead, .dead, .dead, .dead, .dead, .dead, .dead, .dead, .dead, .dead, .dead, .dead, .dead, .dead, .dead, .dead, .dead, .dead, .dead, .dead, .dead, .dead, .dead, .dead, .dead, .dead, .dead, .dead, .dead, .dead, .dead, .dead, .dead, .dead, .dead, .dead, .dead, .dead, .dead, .dead, .dead, .dead, .dead, .dead, .dead, .dead, .dead, .dead, .dead, .dead, .dead, .dead, .dead, .dead, .dead, .dead, .dead, .dead, .dead, .dead, .dead, .dead])]
def g_lodgelaw11_SoftGathers_1 (N : Nat) : Nat → Int → Int → List Int → (List Int × (Bool × (List Int × Unit))) → (List Int × (Bool × (List Int × Unit))) → Int → Option (Int × (Int × (List Int × ((List Int × (Bool × (List Int × Unit))) × ((List Int × (Bool × (List Int × Unit))) × Unit)))))
  | 0, _, _, _, _, _, _ => none
  | n + 1, n_0, d_1, at_2, a_8, ix_10, i_11 =>
    cond (decide (i_11 < (Nat.cast (List.length at_2) : Int)))
      (
      cond (decide ((0 : Int) ≤ i_11))
        (
        cond (decide ((Int.toNat i_11) < (List.length at_2)))
          (
          Option.bind (F_lodgeworld_Number N (List.getD at_2 (Int.toNat i_11) (0 : Int)) (40 : Int)) fun y5 =>
          cond (decide (((0 : Nat) + (List.length (((ix_10).2).2).1)) = (List.length (((ix_10).2).2).1)))
            (
            cond (decide ((((List.length (((ix_10).2).2).1) + 1) * (8 + (1 : Nat))) ≤ Go.Eng.most))
              (
              cond (decide ((List.length (a_8).1) = (List.length (a_8).1)))
                (
                cond (decide ((List.length (((a_8).2).2).1) = (List.length (((a_8).2).2).1)))
                  (
                  cond (decide ((List.length (ix_10).1) = (List.length (ix_10).1)))
                    (
                    cond (decide (((List.length (((ix_10).2).2).1) + 1) = (List.length ((List.take (List.length (((ix_10).2).2).1) (((ix_10).2).2).1) ++ ((wi64 ((y5).1 - (10 : Int))) :: ([] : List Int))))))
                      (
                      (g_lodgelaw11_SoftGathers_1 N n n_0 d_1 at_2 a_8 ((ix_10).1, (((ix_10).2).1, (((List.take (List.length (((ix_10).2).2).1) (((ix_10).2).2).1) ++ ((wi64 ((y5).1 - (10 : Int))) :: ([] : List Int))), ()))) (wi64 (i_11 + (1 : Int)))))
                      (
                      none))
                    (
                    none))
                  (
                  none))
                (
                none))
              (
              none))
            (
            none))
          (
          none))
        (
        none))
      (
      cond (decide ((List.length (a_8).1) = (List.length (a_8).1)))
        (
        cond (decide ((List.length (((a_8).2).2).1) = (List.length (((a_8).2).2).1)))
          (
          cond (decide ((List.length (ix_10).1) = (List.length (ix_10).1)))
            (
            cond (decide ((List.length (((ix_10).2).2).1) = (List.length (((ix_10).2).2).1)))
              (
              some (n_0, (d_1, (at_2, (a_8, (ix_10, ()))))))
              (
              none))
            (
            none))
          (
          none))
        (
        none))

abbrev h_lodgelaw11_SoftGathers_2 : List Slot := [.data (.int .i64), .data (.int .i64), .dead, .dead, .dead, .dead, .dead, .dead, .box [.d (.st (.pair (.st (.pair (.sl (.int .i64)) .bool)) (.sl (.int .i64))))], .dead, .box [.d (.st (.pair (.st (.pair (.sl (.int .i64)) .bool)) (.sl (.int .i64))))], .dead, .box [.d (.sl (.int .i64)), .d .bool, .sl (.int .i64)], .dead, .data (.int .i64), .dead, .dead, .dead, .dead, .dead, .dead, .dead, .dead, .dead, .dead, .dead, .dead, .dead, .dead, .dead, .dead, .dead, .dead, .dead, .dead, .dead, .dead, .dead, .dead, .dead, .dead, .dead, .dead, .dead, .dead, .dead, .dead, .dead, .dead, .dead, .dead, .dead, .dead, .dead, .dead, .dead, .dead, .dead, .dead, .dead, .dead, .dead, .dead, .dead, .dead, .dead, .dead, .dead, .dead, .dead, .dead, .dead, .dead, .dead, .dead, .dead, .dead, .dead, .dead, .dead, .dead, .dead, .dead, .dead, .dead, .dead, .dead, .dead, .dead, .dead, .dead, .dead, .dead, .dead, .dead, .dead, .dead, .dead, .dead, .dead, .dead, .dead, .dead, .dead, .dead, .dead, .dead, .dead, .dead, .dead, .dead, .dead, .dead, .dead, .dead, .dead, .dead, .dead, .dead, .dead, .dead, .dead, .dead, .dead, .dead, .dead, .dead, .dead, .dead, .dead, .dead, .dead, .dead, .dead, .dead, .dead, .dead, .dead, .dead, .dead, .dead, .dead, .dead, .dead, .dead, .dead]
abbrev e_lodgelaw11_SoftGathers_2 : List (AX × List Slot) := [(AX.exit 4, [.dead, .dead, .dead, .dead, .dead, .dead, .dead, .dead, .dead, .dead, .dead, .dead, .dead, .dead, .dead, .dead, .dead, .dead, .dead, .dead, .dead, .dead, .dead, .dead, .dead, .dead, .dead, .dead, .dead, .dead, .dead, .dead, .dead, .dead, .dead, .dead, .dead, .dead, .dead, .dead, .dead, .dead, .dead, .dead, .dead, .dead, .dead, .dead, .dead, .dead, .dead, .dead, .dead, .dead, .dead, .dead, .dead, .dead, .dead, .dead, .dead, .dead, .dead, .dead, .dead, .dead, .dead, .dead, .dead, .dead, .dead, .dead, .dead, .dead, .dead, .dead, .dead, .dead, .dead, .dead, .dead, .dead, .dead, .dead, .dead, .dead, .dead, .dead, .dead, .dead, .dead, .dead, .dead, .dead, .dead, .dead, .dead, .dead, .dead, .dead, .dead, .dead, .dead, .dead, .dead, .dead, .dead, .dead, .dead, .dead, .dead, .dead, .dead, .dead, .dead, .dead, .dead, .dead, .dead, .dead, .dead, .dead, .dead, .dead, .dead, .dead, .dead, .dead, .dead, .dead, .dead, .dead, .dead, .dead, .dead, .dead, .dead, .dead, .dead, .dead, .dead, .dead, .dead, .dead, .dead, .dead]), (AX.ret, [.dead, .dead, .dead, .dead, .dead, .dead, .data .bool, .dead, .dead, .dead, .dead, .dead, .dead, .dead, .dead, .dead, .dead, .dead, .dead, .dead, .dead, .dead, .dead, .dead, .dead, .dead, .dead, .dead, .dead, .dead, .dead, .dead, .dead, .dead, .dead, .dead, .dead, .dead, .dead, .dead, .dead, .dead, .dead, .dead, .dead, .dead, .dead, .dead, .dead, .dead, .dead, .dead, .dead, .dead, .dead, .dead, .dead, .dead, .dead, .dead, .dead, .dead, .dead, .dead, .dead, .dead, .dead, .dead, .dead, .dead, .dead, .dead, .dead, .dead, .dead, .dead, .dead, .dead, .dead, .dead, .dead, .dead, .dead, .dead, .dead, .dead, .dead, .dead, .dead, .dead, .dead, .dead, .dead, .dead, .dead, .dead, .dead, .dead, .dead, .dead, .dead, .dead, .dead, .dead, .dead, .dead, .dead, .dead, .dead, .dead, .dead, .dead, .dead, .dead, .dead, .dead, .dead, .dead, .dead, .dead, .dead, .dead, .dead, .dead, .dead, .dead, .dead, .dead, .dead, .dead, .dead, .dead, .dead, .dead, .dead, .dead, .dead, .dead, .dead, .dead, .dead, .dead, .dead, .dead, .dead, .dead])]
def g_lodgelaw11_SoftGathers_2 (N : Nat) : Nat → Int → Int → (((List Int × Bool) × List Int) × Unit) → (((List Int × Bool) × List Int) × Unit) → (List Int × (Bool × (List Int × Unit))) → Int → Option (Sum Unit (Bool × Unit))
  | 0, _, _, _, _, _, _ => none
  | n + 1, n_0, d_1, a_8, ix_10, t_12, i_14 =>
    cond (decide (i_14 < (Nat.cast (List.length (((t_12).2).2).1) : Int)))
      (
      cond (decide (@Ne Int d_1 (0 : Int)))
        (
        cond (decide ((0 : Int) ≤ (wi64 (Int.tdiv i_14 d_1))))
          (
          cond (decide ((Int.toNat (wi64 (Int.tdiv i_14 d_1))) < (List.length ((ix_10).1).2)))
            (
            cond (decide ((0 : Int) ≤ i_14))
              (
              cond (decide ((Int.toNat i_14) < (List.length (((t_12).2).2).1)))
                (
                cond (decide (((0 : Nat) + (Int.toNat i_14)) < (List.length (((t_12).2).2).1)))
                  (
                  cond (decide (@Ne Int d_1 (0 : Int)))
                    (
                    cond (decide ((0 : Int) ≤ (wi64 ((wi64 ((Go.Eng.imin (Go.Eng.imax (List.getD ((ix_10).1).2 (Int.toNat (wi64 (Int.tdiv i_14 d_1))) (0 : Int)) (0 : Int)) (wi64 (n_0 - (1 : Int)))) * d_1)) + (Int.tmod i_14 d_1)))))
                      (
                      cond (decide ((Int.toNat (wi64 ((wi64 ((Go.Eng.imin (Go.Eng.imax (List.getD ((ix_10).1).2 (Int.toNat (wi64 (Int.tdiv i_14 d_1))) (0 : Int)) (0 : Int)) (wi64 (n_0 - (1 : Int)))) * d_1)) + (Int.tmod i_14 d_1)))) < (List.length ((a_8).1).2)))
                        (
                        cond (decide (@Ne Int (List.getD (((t_12).2).2).1 ((0 : Nat) + (Int.toNat i_14)) (0 : Int)) (List.getD ((a_8).1).2 (Int.toNat (wi64 ((wi64 ((Go.Eng.imin (Go.Eng.imax (List.getD ((ix_10).1).2 (Int.toNat (wi64 (Int.tdiv i_14 d_1))) (0 : Int)) (0 : Int)) (wi64 (n_0 - (1 : Int)))) * d_1)) + (Int.tmod i_14 d_1)))) (0 : Int))))
                          (
                          some (Sum.inr (false, ())))
                          (
                          Option.bind (F_soft_Cell N (17 : Int) i_14 ((a_8).1 :: ((ix_10).1 :: ([] : List (((List Int) × Bool) × (List Int)))))) fun y9 =>
                          cond (decide ((0 : Int) ≤ i_14))
                            (
                            cond (decide ((Int.toNat i_14) < (List.length (((t_12).2).2).1)))
                              (
                              cond (decide (((0 : Nat) + (Int.toNat i_14)) < (List.length (((t_12).2).2).1)))
                                (
                                cond (decide (@Ne Int (y9).1 (List.getD (((t_12).2).2).1 ((0 : Nat) + (Int.toNat i_14)) (0 : Int))))
                                  (
                                  some (Sum.inr (false, ())))
                                  (
                                  cond (decide ((List.length (((t_12).2).2).1) = (List.length (((t_12).2).2).1)))
                                    (
                                    (g_lodgelaw11_SoftGathers_2 N n n_0 d_1 a_8 ix_10 t_12 (wi64 (i_14 + (1 : Int)))))
                                    (
                                    none)))
                                (
                                none))
                              (
                              none))
                            (
                            none)))
                        (
                        none))
                      (
                      none))
                    (
                    none))
                  (
                  none))
                (
                none))
              (
              none))
            (
            none))
          (
          none))
        (
        none))
      (
      some (Sum.inl ()))

def F_lodgelaw11_SoftGathers (N : Nat) (n_0 : Int) (d_1 : Int) (at_2 : List Int) : Option (Bool × Unit) :=
  Option.bind (F_lodgelaw11_first N) fun y0 =>
  cond (Bool.not (y0).1)
    (
    some (false, ()))
    (
    cond (decide ((20 : Int) < (Nat.cast (List.length at_2) : Int)))
      (
      some y0)
      (
      cond (decide ((Nat.cast (List.length at_2) : Int) = (0 : Int)))
        (
        some y0)
        (
        cond (Bool.not (y0).1)
          (
          some y0)
          (
          Option.bind (F_lodgeworld_Number N n_0 (10 : Int)) fun y1 =>
          Option.bind (F_lodgeworld_Number N d_1 (10 : Int)) fun y2 =>
          Option.bind (g_lodgelaw11_SoftGathers_0 N N (wi64 ((y1).1 + (1 : Int))) (wi64 ((y2).1 + (1 : Int))) at_2 (((wi64 ((y1).1 + (1 : Int))) :: ((wi64 ((y2).1 + (1 : Int))) :: ([] : List Int))), (false, (([] : List Int), ()))) (0 : Int)) fun y3 =>
          cond (decide ((List.length (((((y3).2).2).2).1).1) = (List.length (((((y3).2).2).2).1).1)))
            (
            cond (decide ((List.length (((((((y3).2).2).2).1).2).2).1) = (List.length (((((((y3).2).2).2).1).2).2).1)))
              (
              Option.bind (g_lodgelaw11_SoftGathers_1 N N (y3).1 ((y3).2).1 (((y3).2).2).1 ((((y3).2).2).2).1 (((Nat.cast (List.length (((y3).2).2).1) : Int) :: ([] : List Int)), (true, (([] : List Int), ()))) (0 : Int)) fun y4 =>
              cond (decide (((0 : Nat) + (List.length (((((y4).2).2).2).1).1)) ≤ (List.length (((((y4).2).2).2).1).1)))
                (
                cond (decide (((0 : Nat) + (List.length (((((((y4).2).2).2).1).2).2).1)) ≤ (List.length (((((((y4).2).2).2).1).2).2).1)))
                  (
                  cond (decide (((0 : Nat) + (List.length ((((((y4).2).2).2).2).1).1)) ≤ (List.length ((((((y4).2).2).2).2).1).1)))
                    (
                    cond (decide (((0 : Nat) + (List.length ((((((((y4).2).2).2).2).1).2).2).1)) ≤ (List.length ((((((((y4).2).2).2).2).1).2).2).1)))
                      (
                      Option.bind (F_soft_Gather N (((List.take (List.length (((((y4).2).2).2).1).1) (((((y4).2).2).2).1).1), ((((((y4).2).2).2).1).2).1), (List.take (List.length (((((((y4).2).2).2).1).2).2).1) (((((((y4).2).2).2).1).2).2).1)) (((List.take (List.length ((((((y4).2).2).2).2).1).1) ((((((y4).2).2).2).2).1).1), (((((((y4).2).2).2).2).1).2).1), (List.take (List.length ((((((((y4).2).2).2).2).1).2).2).1) ((((((((y4).2).2).2).2).1).2).2).1))) fun y5 =>
                      cond (Bool.not (Go.Eng.Er.isNil ((y5).2).1))
                        (
                        some (false, ()))
                        (
                        cond (decide (@Ne Int (Nat.cast (List.length ((((y5).1).2).2).1) : Int) (wi64 ((Nat.cast (List.length (((y4).2).2).1) : Int) * ((y4).2).1))))
                          (
                          some (false, ()))
                          (
                          cond (decide (((0 : Nat) + (List.length (((((y4).2).2).2).1).1)) ≤ (List.length (((((y4).2).2).2).1).1)))
                            (
                            cond (decide (((0 : Nat) + (List.length (((((((y4).2).2).2).1).2).2).1)) ≤ (List.length (((((((y4).2).2).2).1).2).2).1)))
                              (
                              cond (decide (((0 : Nat) + (List.length ((((((y4).2).2).2).2).1).1)) ≤ (List.length ((((((y4).2).2).2).2).1).1)))
                                (
                                cond (decide (((0 : Nat) + (List.length ((((((((y4).2).2).2).2).1).2).2).1)) ≤ (List.length ((((((((y4).2).2).2).2).1).2).2).1)))
                                  (
                                  cond (decide (((0 : Nat) + (List.length (((((y4).2).2).2).1).1)) ≤ (List.length (((((y4).2).2).2).1).1)))
                                    (
                                    cond (decide (((0 : Nat) + (List.length (((((((y4).2).2).2).1).2).2).1)) ≤ (List.length (((((((y4).2).2).2).1).2).2).1)))
                                      (
                                      cond (decide (((0 : Nat) + (List.length ((((((y4).2).2).2).2).1).1)) ≤ (List.length ((((((y4).2).2).2).2).1).1)))
                                        (
                                        cond (decide (((0 : Nat) + (List.length ((((((((y4).2).2).2).2).1).2).2).1)) ≤ (List.length ((((((((y4).2).2).2).2).1).2).2).1)))
                                          (
                                          cond (decide ((List.length ((((y5).1).2).2).1) = (List.length ((((y5).1).2).2).1)))
                                            (
                                            Option.bind (g_lodgelaw11_SoftGathers_2 N N (y4).1 ((y4).2).1 ((((List.take (List.length (((((y4).2).2).2).1).1) (((((y4).2).2).2).1).1), ((((((y4).2).2).2).1).2).1), (List.take (List.length (((((((y4).2).2).2).1).2).2).1) (((((((y4).2).2).2).1).2).2).1)), ()) ((((List.take (List.length ((((((y4).2).2).2).2).1).1) ((((((y4).2).2).2).2).1).1), (((((((y4).2).2).2).2).1).2).1), (List.take (List.length ((((((((y4).2).2).2).2).1).2).2).1) ((((((((y4).2).2).2).2).1).2).2).1)), ()) (y5).1 (0 : Int)) fun y6 =>
                                            Sum.elim (fun y7 =>
                                              some (true, ()))
                                              (fun y8 =>
                                              some y8) y6)
                                            (
                                            none))
                                          (
                                          none))
                                        (
                                        none))
                                      (
                                      none))
                                    (
                                    none))
                                  (
                                  none))
                                (
                                none))
                              (
                              none))
                            (
                            none))))
                      (
                      none))
                    (
                    none))
                  (
                  none))
                (
                none))
              (
              none))
            (
            none)))))

abbrev c_lodgelaw11_SoftGathers (N : Nat) : CallSpec := ⟨6, ps_lodgelaw11_SoftGathers, rs_lodgelaw11_SoftGathers, fun x => F_lodgelaw11_SoftGathers N x.1 x.2.1 x.2.2.1⟩
abbrev l_lodgelaw11_SoftGathers_2 (N : Nat) : LoopSpec := ⟨2, h_lodgelaw11_SoftGathers_2, e_lodgelaw11_SoftGathers_2, fun x => g_lodgelaw11_SoftGathers_2 N N x.1 x.2.1 x.2.2.1 x.2.2.2.1 x.2.2.2.2.1 x.2.2.2.2.2.1⟩
abbrev l_lodgelaw11_SoftGathers_1 (N : Nat) : LoopSpec := ⟨1, h_lodgelaw11_SoftGathers_1, e_lodgelaw11_SoftGathers_1, fun x => g_lodgelaw11_SoftGathers_1 N N x.1 x.2.1 x.2.2.1 x.2.2.2.1 x.2.2.2.2.1 x.2.2.2.2.2.1⟩
abbrev l_lodgelaw11_SoftGathers_0 (N : Nat) : LoopSpec := ⟨0, h_lodgelaw11_SoftGathers_0, e_lodgelaw11_SoftGathers_0, fun x => g_lodgelaw11_SoftGathers_0 N N x.1 x.2.1 x.2.2.1 x.2.2.2.1 x.2.2.2.2.1⟩

theorem cs_lodgelaw11_SoftGathers_ok (S : Nat → Addr) (N : Nat) : CallsOK Go.Proofs.Tryd.prog E S (cs_lodgelaw11_SoftGathers N) :=
  .cons (F_lodgelaw11_first_ok S N) (.cons (F_lodgeworld_Number_ok S N) (.cons (F_soft_Gather_ok S N) (.cons (F_soft_Cell_ok S N) (.nil))))
noncomputable abbrev b_lodgelaw11_SoftGathers_2 : Code := (loopsOf b_lodgelaw11_SoftGathers).getD 2 .skip
theorem g_lodgelaw11_SoftGathers_2_ok (S : Nat → Addr) (N : Nat) : ∀ n x y, (fun (x : Val (slotsTy h_lodgelaw11_SoftGathers_2)) => g_lodgelaw11_SoftGathers_2 N n x.1 x.2.1 x.2.2.1 x.2.2.2.1 x.2.2.2.2.1 x.2.2.2.2.2.1) x = some y → LoopCon Go.Proofs.Tryd.prog E S b_lodgelaw11_SoftGathers_2 (encSlots h_lodgelaw11_SoftGathers_2 x) (encEx e_lodgelaw11_SoftGathers_2 y).1 (encEx e_lodgelaw11_SoftGathers_2 y).2 :=
  loop_spec E_ok mixed (cs_lodgelaw11_SoftGathers_ok S N) (all := loopsOf b_lodgelaw11_SoftGathers) (ls := []) (.nil) (i := 2) (by kernel_rfl) (inner_of (by kernel_rfl)) (head := h_lodgelaw11_SoftGathers_2) (ex := e_lodgelaw11_SoftGathers_2) (fun n (x : Val (slotsTy h_lodgelaw11_SoftGathers_2)) => g_lodgelaw11_SoftGathers_2 N n x.1 x.2.1 x.2.2.1 x.2.2.2.1 x.2.2.2.2.1 x.2.2.2.2.2.1) (fun _ => rfl) (fun n x => by kernel_rfl)
noncomputable abbrev b_lodgelaw11_SoftGathers_1 : Code := (loopsOf b_lodgelaw11_SoftGathers).getD 1 .skip
theorem g_lodgelaw11_SoftGathers_1_ok (S : Nat → Addr) (N : Nat) : ∀ n x y, (fun (x : Val (slotsTy h_lodgelaw11_SoftGathers_1)) => g_lodgelaw11_SoftGathers_1 N n x.1 x.2.1 x.2.2.1 x.2.2.2.1 x.2.2.2.2.1 x.2.2.2.2.2.1) x = some y → LoopCon Go.Proofs.Tryd.prog E S b_lodgelaw11_SoftGathers_1 (encSlots h_lodgelaw11_SoftGathers_1 x) (encEx e_lodgelaw11_SoftGathers_1 y).1 (encEx e_lodgelaw11_SoftGathers_1 y).2 :=
  loop_spec E_ok mixed (cs_lodgelaw11_SoftGathers_ok S N) (all := loopsOf b_lodgelaw11_SoftGathers) (ls := []) (.nil) (i := 1) (by kernel_rfl) (inner_of (by kernel_rfl)) (head := h_lodgelaw11_SoftGathers_1) (ex := e_lodgelaw11_SoftGathers_1) (fun n (x : Val (slotsTy h_lodgelaw11_SoftGathers_1)) => g_lodgelaw11_SoftGathers_1 N n x.1 x.2.1 x.2.2.1 x.2.2.2.1 x.2.2.2.2.1 x.2.2.2.2.2.1) (fun _ => rfl) (fun n x => by kernel_rfl)
noncomputable abbrev b_lodgelaw11_SoftGathers_0 : Code := (loopsOf b_lodgelaw11_SoftGathers).getD 0 .skip
theorem g_lodgelaw11_SoftGathers_0_ok (S : Nat → Addr) (N : Nat) : ∀ n x y, (fun (x : Val (slotsTy h_lodgelaw11_SoftGathers_0)) => g_lodgelaw11_SoftGathers_0 N n x.1 x.2.1 x.2.2.1 x.2.2.2.1 x.2.2.2.2.1) x = some y → LoopCon Go.Proofs.Tryd.prog E S b_lodgelaw11_SoftGathers_0 (encSlots h_lodgelaw11_SoftGathers_0 x) (encEx e_lodgelaw11_SoftGathers_0 y).1 (encEx e_lodgelaw11_SoftGathers_0 y).2 :=
  loop_spec E_ok mixed (cs_lodgelaw11_SoftGathers_ok S N) (all := loopsOf b_lodgelaw11_SoftGathers) (ls := []) (.nil) (i := 0) (by kernel_rfl) (inner_of (by kernel_rfl)) (head := h_lodgelaw11_SoftGathers_0) (ex := e_lodgelaw11_SoftGathers_0) (fun n (x : Val (slotsTy h_lodgelaw11_SoftGathers_0)) => g_lodgelaw11_SoftGathers_0 N n x.1 x.2.1 x.2.2.1 x.2.2.2.1 x.2.2.2.2.1) (fun _ => rfl) (fun n x => by kernel_rfl)
theorem F_lodgelaw11_SoftGathers_ok (S : Nat → Addr) (N : Nat) : ∀ x y, (c_lodgelaw11_SoftGathers N).g x = some y → FCon Go.Proofs.Tryd.prog E S 6 ps_lodgelaw11_SoftGathers rs_lodgelaw11_SoftGathers x y := by
  intro x y h
  exact fun_spec E_ok mixed (cs_lodgelaw11_SoftGathers_ok S N) (f := 6) (fi := ⟨b_lodgelaw11_SoftGathers, 146, Go.Proofs.Tryd.f6.results.toList⟩) (by kernel_rfl) (ls := [l_lodgelaw11_SoftGathers_2 N, l_lodgelaw11_SoftGathers_1 N, l_lodgelaw11_SoftGathers_0 N]) (.cons (by kernel_rfl) (g_lodgelaw11_SoftGathers_2_ok S N N) (.cons (by kernel_rfl) (g_lodgelaw11_SoftGathers_1_ok S N N) (.cons (by kernel_rfl) (g_lodgelaw11_SoftGathers_0_ok S N N) (.nil)))) (by kernel_rfl) (ps := ps_lodgelaw11_SoftGathers) (rs := rs_lodgelaw11_SoftGathers) (Eq.trans (b := F_lodgelaw11_SoftGathers N x.1 x.2.1 x.2.2.1) (by kernel_rfl) h)

/-! lodge/soft.Sum -/

abbrev ps_soft_Sum : List Ty := [(.st (.pair (.st (.pair (.sl (.int .i64)) .bool)) (.sl (.int .i64))))]
abbrev rs_soft_Sum : List Slot := [.ag [.d (.sl (.int .i64)), .d .bool, .sl (.int .i64)], .data .err]
abbrev cs_soft_Sum (N : Nat) : List CallSpec := [c_soft_do N]
noncomputable abbrev b_soft_Sum : Code := (Go.Proofs.Tryd.f21.body).getD .skip

def F_soft_Sum (N : Nat) (a_0 : ((List Int × Bool) × List Int)) : Option ((List Int × (Bool × (List Int × Unit))) × (Er × Unit)) :=
  Option.bind (F_soft_do N (20 : Int) (a_0 :: ([] : List (((List Int) × Bool) × (List Int))))) fun y0 =>
  cond (decide ((List.length ((((y0).1).2).2).1) = (List.length ((((y0).1).2).2).1)))
    (
    some y0)
    (
    none)

abbrev c_soft_Sum (N : Nat) : CallSpec := ⟨21, ps_soft_Sum, rs_soft_Sum, fun x => F_soft_Sum N x.1⟩

theorem cs_soft_Sum_ok (S : Nat → Addr) (N : Nat) : CallsOK Go.Proofs.Tryd.prog E S (cs_soft_Sum N) :=
  .cons (F_soft_do_ok S N) (.nil)
theorem F_soft_Sum_ok (S : Nat → Addr) (N : Nat) : ∀ x y, (c_soft_Sum N).g x = some y → FCon Go.Proofs.Tryd.prog E S 21 ps_soft_Sum rs_soft_Sum x y := by
  intro x y h
  exact fun_spec E_ok mixed (cs_soft_Sum_ok S N) (f := 21) (fi := ⟨b_soft_Sum, 9, Go.Proofs.Tryd.f21.results.toList⟩) (by kernel_rfl) (ls := []) (.nil) (by kernel_rfl) (ps := ps_soft_Sum) (rs := rs_soft_Sum) (Eq.trans (b := F_soft_Sum N x.1) (by kernel_rfl) h)

/-! lodge/tens.Narrow -/

abbrev ps_tens_Narrow : List Ty := [(.int .i64)]
abbrev rs_tens_Narrow : List Slot := [.data (.int .i64)]
abbrev cs_tens_Narrow (N : Nat) : List CallSpec := []
noncomputable abbrev b_tens_Narrow : Code := (Go.Proofs.Tryd.f106.body).getD .skip

def F_tens_Narrow (N : Nat) (n_0 : Int) : Option (Int × Unit) :=
  some ((Go.Eng.imax (-(128 : Int)) (Go.Eng.imin n_0 (127 : Int))), ())

abbrev c_tens_Narrow (N : Nat) : CallSpec := ⟨106, ps_tens_Narrow, rs_tens_Narrow, fun x => F_tens_Narrow N x.1⟩

theorem cs_tens_Narrow_ok (S : Nat → Addr) (N : Nat) : CallsOK Go.Proofs.Tryd.prog E S (cs_tens_Narrow N) :=
  .nil
theorem F_tens_Narrow_ok (S : Nat → Addr) (N : Nat) : ∀ x y, (c_tens_Narrow N).g x = some y → FCon Go.Proofs.Tryd.prog E S 106 ps_tens_Narrow rs_tens_Narrow x y := by
  intro x y h
  exact fun_spec E_ok mixed (cs_tens_Narrow_ok S N) (f := 106) (fi := ⟨b_tens_Narrow, 6, Go.Proofs.Tryd.f106.results.toList⟩) (by kernel_rfl) (ls := []) (.nil) (by kernel_rfl) (ps := ps_tens_Narrow) (rs := rs_tens_Narrow) (Eq.trans (b := F_tens_Narrow N x.1) (by kernel_rfl) h)


end Go.Proofs.YtohkmbpdjigjdaaDoor.Lg
