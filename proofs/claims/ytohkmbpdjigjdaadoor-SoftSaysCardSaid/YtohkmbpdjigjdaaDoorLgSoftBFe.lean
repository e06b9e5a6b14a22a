/-
  The functions of the seat's program, as plain functions.
-/
import Derived.Test.YtohkmbpdjigjdaaDoorLgSoftBFd
namespace Go.Proofs.YtohkmbpdjigjdaaDoor.Lg
open Go Go.Eng Go.Proofs
set_option maxRecDepth 100000

/-! lodge/lodgeref3.element -/

abbrev ps_lodgeref3_element : List Ty := [(.int .i64), (.sl (.int .i64)), (.int .i64), (.sl (.st (.pair (.st (.pair (.sl (.int .i64)) .bool)) (.sl (.int .i64))))), (.st (.pair (.sl (.int .i64)) .bool))]
abbrev rs_lodgeref3_element : List Slot := [.data (.int .i64)]
abbrev cs_lodgeref3_element (N : Nat) : List CallSpec := [c_lodgeref3_Wide N, c_lodgeref3_Cut N, c_lodgeref3_Value N, c_lodgeref3_conv N, c_lodgeref3_pool N, c_lodgeref3_softmax N]
noncomputable abbrev b_lodgeref3_element : Code := (Go.Proofs.Tryd.f47.body).getD .skip

abbrev h_lodgeref3_element_1 : List Slot := [.data (.int .i64), .dead, .data (.int .i64), .dead, .dead, .dead, .dead, .dead, .dead, .dead, .dead, .box [.d (.st (.pair (.st (.pair (.sl (.int .i64)) .bool)) (.sl (.int .i64))))], .dead, .dead, .dead, .dead, .dead, .dead, .dead, .data (.int .i64), .data (.int .i64), .data (.int .i64), .data (.int .i64), .dead, .dead, .dead, .dead, .dead, .dead, .dead, .dead, .dead, .dead, .dead, .dead, .dead, .dead, .dead, .dead, .dead, .dead, .dead, .dead, .dead, .dead, .dead, .dead, .dead, .dead, .dead, .dead, .dead, .dead, .dead, .dead, .dead, .dead, .dead, .dead, .dead, .dead, .dead, .dead, .dead, .dead, .dead, .dead, .dead, .dead, .dead, .dead, .dead, .dead, .dead, .dead, .dead, .dead, .dead, .dead, .dead, .dead, .dead, .dead, .dead, .dead, .dead, .dead, .dead, .dead, .dead, .dead, .dead, .dead, .dead, .dead, .dead, .dead, .dead, .dead, .dead, .dead, .dead, .dead, .dead, .dead, .dead, .dead, .dead, .dead, .dead, .dead, .dead, .dead, .dead, .dead, .dead, .dead, .dead, .dead, .dead, .dead, .dead, .dead, .dead, .dead, .dead, .dead, .dead, .dead, .dead, .dead, .dead, .dead, .dead, .dead, .dead, .dead, .dead, .dead, .dead, .dead, .dead, .dead, .dead, .dead, .dead, .dead, .dead, .dead, .dead, .dead, .dead, .dead, .dead, .dead, .dead, .dead, .dead, .dead, .dead, .dead, .dead, .dead, .dead, .dead, .dead, .dead, .dead, .dead, .dead, .dead, .dead, .dead, .dead, .dead, .dead, .dead, .dead, .dead, .dead, .dead, .dead, .dead, .dead, .dead, .dead, .dead, .dead, .dead, .dead, .dead, .dead, .dead, .dead, .dead, .dead, .dead, .dead, .dead, .dead, .dead, .dead, .dead, .dead, .dead, .dead, .dead, .dead, .dead, .dead, .dead, .dead, .dead, .dead, .dead, .dead, .dead, .dead, .dead, .dead, .dead, .dead, .dead, .dead, .dead, .dead, .dead, .dead, .dead, .dead, .dead, .dead, .dead, .dead, .dead, .dead, .dead, .dead, .dead, .dead, .dead, .dead, .dead, .dead, .dead, .dead, .dead]
abbrev e_lodgeref3_element_1 : List (AX × List Slot) := [(AX.exit 3, [.data (.int .i64), .dead, .dead, .dead, .dead, .dead, .dead, .dead, .dead, .dead, .dead, .dead, .dead, .dead, .dead, .dead, .dead, .dead, .dead, .dead, .data (.int .i64), .data (.int .i64), .dead, .dead, .dead, .dead, .dead, .dead, .dead, .dead, .dead, .dead, .dead, .dead, .dead, .dead, .dead, .dead, .dead, .dead, .dead, .dead, .dead, .dead, .dead, .dead, .dead, .dead, .dead, .dead, .dead, .dead, .dead, .dead, .dead, .dead, .dead, .dead, .dead, .dead, .dead, .dead, .dead, .dead, .dead, .dead, .dead, .dead, .dead, .dead, .dead, .dead, .dead, .dead, .dead, .dead, .dead, .dead, .dead, .dead, .dead, .dead, .dead, .dead, .dead, .dead, .dead, .dead, .dead, .dead, .dead, .dead, .dead, .dead, .dead, .dead, .dead, .dead, .dead, .dead, .dead, .dead, .dead, .dead, .dead, .dead, .dead, .dead, .dead, .dead, .dead, .dead, .dead, .dead, .dead, .dead, .dead, .dead, .dead, .dead, .dead, .dead, .dead, .dead, .dead, .dead, .dead, .dead, .dead, .dead, .dead, .dead, .dead, .dead, .dead, .dead, .dead, .dead, .dead, .dead, .dead, .dead, .dead, .dead, .dead, .dead, .dead, .dead, .dead, .dead, .dead, .dead, .dead, .dead, .dead, .dead, .dead, .dead, .dead, .dead, .dead, .dead, .dead, .dead, .dead, .dead, .dead, .dead, .dead, .dead, .dead, .dead, .dead, .dead, .dead, .dead, .dead, .dead, .dead, .dead, .dead, .dead, .dead, .dead, .dead, .dead, .dead, .dead, .dead, .dead, .dead, .dead, .dead, .dead, .dead, .dead, .dead, .dead, .dead, .dead, .dead, .dead, .dead, .dead, .dead, .dead, .dead, .dead, .dead, .dead, .dead, .dead, .dead, .dead, .dead, .dead, .dead, .dead, .dead, .dead, .dead, .dead, .dead, .dead, .dead, .dead, .dead, .dead, .dead, .dead, .dead, .dead, .dead, .dead, .dead, .dead, .dead, .dead, .dead, .dead, .dead, .dead, .dead, .dead, .dead, .dead, .dead])]
def g_lodgeref3_element_1 (N : Nat) : Nat → Int → Int → (((List Int × Bool) × List Int) × Unit) → Int → Int → Int → Int → Option (Int × (Int × (Int × Unit)))
  | 0, _, _, _, _, _, _, _ => none
  | n + 1, op_0, i_2, a_11, n_19, best_20, s_21, j_22 =>
    cond (decide (j_22 < n_19))
      (
      cond (decide ((0 : Int) ≤ (wi64 ((wi64 (i_2 * n_19)) + j_22))))
        (
        cond (decide ((Int.toNat (wi64 ((wi64 (i_2 * n_19)) + j_22))) < (List.length ((a_11).1).2)))
          (
          cond (decide ((0 : Int) ≤ (wi64 ((wi64 (i_2 * n_19)) + best_20))))
            (
            cond (decide ((Int.toNat (wi64 ((wi64 (i_2 * n_19)) + best_20))) < (List.length ((a_11).1).2)))
              (
              cond (decide ((List.getD ((a_11).1).2 (Int.toNat (wi64 ((wi64 (i_2 * n_19)) + best_20))) (0 : Int)) < (List.getD ((a_11).1).2 (Int.toNat (wi64 ((wi64 (i_2 * n_19)) + j_22))) (0 : Int))))
                (
                (g_lodgeref3_element_1 N n op_0 i_2 a_11 n_19 j_22 (wi64 (s_21 + (List.getD ((a_11).1).2 (Int.toNat (wi64 ((wi64 (i_2 * n_19)) + j_22))) (0 : Int)))) (wi64 (j_22 + (1 : Int)))))
                (
                (g_lodgeref3_element_1 N n op_0 i_2 a_11 n_19 best_20 (wi64 (s_21 + (List.getD ((a_11).1).2 (Int.toNat (wi64 ((wi64 (i_2 * n_19)) + j_22))) (0 : Int)))) (wi64 (j_22 + (1 : Int))))))
              (
              none))
            (
            none))
          (
          none))
        (
        none))
      (
      some (op_0, (best_20, (s_21, ()))))

abbrev h_lodgeref3_element_0 : List Slot := [.dead, .data (.sl (.int .i64)), .data (.int .i64), .data (.sl (.st (.pair (.st (.pair (.sl (.int .i64)) .bool)) (.sl (.int .i64))))), .dead, .dead, .dead, .dead, .dead, .dead, .dead, .box [.d (.st (.pair (.st (.pair (.sl (.int .i64)) .bool)) (.sl (.int .i64))))], .dead, .data (.int .i64), .data (.int .i64), .data (.int .i64), .data (.int .i64), .dead, .dead, .dead, .dead, .dead, .dead, .dead, .dead, .dead, .dead, .dead, .dead, .dead, .dead, .dead, .dead, .dead, .dead, .dead, .dead, .dead, .dead, .dead, .dead, .dead, .dead, .dead, .dead, .dead, .dead, .dead, .dead, .dead, .dead, .dead, .dead, .dead, .dead, .dead, .dead, .dead, .dead, .dead, .dead, .dead, .dead, .dead, .dead, .dead, .dead, .dead, .dead, .dead, .dead, .dead, .dead, .dead, .dead, .dead, .dead, .dead, .dead, .dead, .dead, .dead, .dead, .dead, .dead, .dead, .dead, .dead, .dead, .dead, .dead, .dead, .dead, .dead, .dead, .dead, .dead, .dead, .dead, .dead, .dead, .dead, .dead, .dead, .dead, .dead, .dead, .dead, .dead, .dead, .dead, .dead, .dead, .dead, .dead, .dead, .dead, .dead, .dead, .dead, .dead, .dead, .dead, .dead, .dead, .dead, .dead, .dead, .dead, .dead, .dead, .dead, .dead, .dead, .dead, .dead, .dead, .dead, .dead, .dead, .dead, .dead, .dead, .dead, .dead, .dead, .dead, .dead, .dead, .dead, .dead, .dead, .dead, .dead, .dead, .dead, .dead, .dead, .dead, .dead, .dead, .dead, .dead, .dead, .dead, .dead, .dead, .dead, .dead, .dead, .dead, .dead, .dead, .dead, .dead, .dead, .dead, .dead, .dead, .dead, .dead, .dead, .dead, .dead, .dead, .dead, .dead, .dead, .dead, .dead, .dead, .dead, .dead, .dead, .dead, .dead, .dead, .dead, .dead, .dead, .dead, .dead, .dead, .dead, .dead, .dead, .dead, .dead, .dead, .dead, .dead, .dead, .dead, .dead, .dead, .dead, .dead, .dead, .dead, .dead, .dead, .dead, .dead, .dead, .dead, .dead, .dead, .dead, .dead, .dead, .dead, .dead, .dead, .dead, .dead, .dead, .dead, .dead, .dead, .dead, .dead, .dead, .dead, .dead, .dead, .dead, .dead]
abbrev e_lodgeref3_element_0 : List (AX × List Slot) := [(AX.exit 1, [.dead, .dead, .dead, .dead, .dead, .dead, .dead, .dead, .dead, .dead, .dead, .dead, .dead, .dead, .dead, .data (.int .i64), .dead, .dead, .dead, .dead, .dead, .dead, .dead, .dead, .dead, .dead, .dead, .dead, .dead, .dead, .dead, .dead, .dead, .dead, .dead, .dead, .dead, .dead, .dead, .dead, .dead, .dead, .dead, .dead, .dead, .dead, .dead, .dead, .dead, .dead, .dead, .dead, .dead, .dead, .dead, .dead, .dead, .dead, .dead, .dead, .dead, .dead, .dead, .dead, .dead, .dead, .dead, .dead, .dead, .dead, .dead, .dead, .dead, .dead, .dead, .dead, .dead, .dead, .dead, .dead, .dead, .dead, .dead, .dead, .dead, .dead, .dead, .dead, .dead, .dead, .dead, .dead, .dead, .dead, .dead, .dead, .dead, .dead, .dead, .dead, .dead, .dead, .dead, .dead, .dead, .dead, .dead, .dead, .dead, .dead, .dead, .dead, .dead, .dead, .dead, .dead, .dead, .dead, .dead, .dead, .dead, .dead, .dead, .dead, .dead, .dead, .dead, .dead, .dead, .dead, .dead, .dead, .dead, .dead, .dead, .dead, .dead, .dead, .dead, .dead, .dead, .dead, .dead, .dead, .dead, .dead, .dead, .dead, .dead, .dead, .dead, .dead, .dead, .dead, .dead, .dead, .dead, .dead, .dead, .dead, .dead, .dead, .dead, .dead, .dead, .dead, .dead, .dead, .dead, .dead, .dead, .dead, .dead, .dead, .dead, .dead, .dead, .dead, .dead, .dead, .dead, .dead, .dead, .dead, .dead, .dead, .dead, .dead, .dead, .dead, .dead, .dead, .dead, .dead, .dead, .dead, .dead, .dead, .dead, .dead, .dead, .dead, .dead, .dead, .dead, .dead, .dead, .dead, .dead, .dead, .dead, .dead, .dead, .dead, .dead, .dead, .dead, .dead, .dead, .dead, .dead, .dead, .dead, .dead, .dead, .dead, .dead, .dead, .dead, .dead, .dead, .dead, .dead, .dead, .dead, .dead, .dead, .dead, .dead, .dead, .dead, .dead, .dead, .dead, .dead, .dead, .dead])]
def g_lodgeref3_element_0 (N : Nat) : Nat → List Int → Int → List (((List Int × Bool) × List Int)) → (((List Int × Bool) × List Int) × Unit) → Int → Int → Int → Int → Option (Int × Unit)
  | 0, _, _, _, _, _, _, _, _ => none
  | n + 1, args_1, i_2, ins_3, a_11, k_13, n_14, s_15, j_16 =>
    cond (decide (j_16 < k_13))
      (
      cond (decide (@Ne Int n_14 (0 : Int)))
        (
        cond (decide ((0 : Int) ≤ (wi64 ((wi64 ((wi64 (Int.tdiv i_2 n_14)) * k_13)) + j_16))))
          (
          cond (decide ((Int.toNat (wi64 ((wi64 ((wi64 (Int.tdiv i_2 n_14)) * k_13)) + j_16))) < (List.length ((a_11).1).2)))
            (
            cond (decide (0 < (List.length args_1)))
              (
              cond (decide (1 < (List.length ins_3)))
                (
                cond (decide (@Ne Int n_14 (0 : Int)))
                  (
                  cond (decide ((0 : Int) ≤ (wi64 ((wi64 (j_16 * n_14)) + (Int.tmod i_2 n_14)))))
                    (
                    cond (decide ((Int.toNat (wi64 ((wi64 (j_16 * n_14)) + (Int.tmod i_2 n_14)))) < (List.length ((List.getD ins_3 1 ((([] : List Int), false), ([] : List Int)))).2)))
                      (
                      cond (decide (1 < (List.length args_1)))
                        (
                        (g_lodgeref3_element_0 N n args_1 i_2 ins_3 a_11 k_13 n_14 (wi64 (s_15 + (wi64 ((wi64 ((List.getD ((a_11).1).2 (Int.toNat (wi64 ((wi64 ((wi64 (Int.tdiv i_2 n_14)) * k_13)) + j_16))) (0 : Int)) - (List.getD args_1 0 (0 : Int)))) * (wi64 ((List.getD ((List.getD ins_3 1 ((([] : List Int), false), ([] : List Int)))).2 (Int.toNat (wi64 ((wi64 (j_16 * n_14)) + (Int.tmod i_2 n_14)))) (0 : Int)) - (List.getD args_1 1 (0 : Int)))))))) (wi64 (j_16 + (1 : Int)))))
                        (
                        none))
                      (
                      none))
                    (
                    none))
                  (
                  none))
                (
                none))
              (
              none))
            (
            none))
          (
          none))
        (
        none))
      (
      some (s_15, ()))

def F_lodgeref3_element (N : Nat) (op_0 : Int) (args_1 : List Int) (i_2 : Int) (ins_3 : List (((List Int × Bool) × List Int))) (d_4 : (List Int × Bool)) : Option (Int × Unit) :=
  cond (decide (0 < (List.length ins_3)))
    (
    cond (decide (op_0 ≤ (11 : Int)))
      (
      cond (decide ((1 : Int) < (Nat.cast (List.length ins_3) : Int)))
        (
        cond (decide (1 < (List.length ins_3)))
          (
          cond (decide ((0 : Int) ≤ i_2))
            (
            cond (decide ((Int.toNat i_2) < (List.length ((List.getD ins_3 1 ((([] : List Int), false), ([] : List Int)))).2)))
              (
              cond (decide ((0 : Int) ≤ i_2))
                (
                cond (decide ((Int.toNat i_2) < (List.length ((List.getD ins_3 0 ((([] : List Int), false), ([] : List Int)))).2)))
                  (
                  Option.bind (F_lodgeref3_Value N op_0 (((List.getD ins_3 0 ((([] : List Int), false), ([] : List Int)))).1).2 (List.getD ((List.getD ins_3 0 ((([] : List Int), false), ([] : List Int)))).2 (Int.toNat i_2) (0 : Int)) (List.getD ((List.getD ins_3 1 ((([] : List Int), false), ([] : List Int)))).2 (Int.toNat i_2) (0 : Int)) args_1) fun y0 =>
                  some y0)
                  (
                  none))
                (
                none))
              (
              none))
            (
            none))
          (
          none))
        (
        cond (decide ((0 : Int) ≤ i_2))
          (
          cond (decide ((Int.toNat i_2) < (List.length ((List.getD ins_3 0 ((([] : List Int), false), ([] : List Int)))).2)))
            (
            Option.bind (F_lodgeref3_Value N op_0 (((List.getD ins_3 0 ((([] : List Int), false), ([] : List Int)))).1).2 (List.getD ((List.getD ins_3 0 ((([] : List Int), false), ([] : List Int)))).2 (Int.toNat i_2) (0 : Int)) (0 : Int) args_1) fun y1 =>
            some y1)
            (
            none))
          (
          none)))
      (
      cond (decide (op_0 = (12 : Int)))
        (
        cond (decide (1 < (List.length (((List.getD ins_3 0 ((([] : List Int), false), ([] : List Int)))).1).1)))
          (
          cond (decide (1 < (List.length ins_3)))
            (
            cond (decide (1 < (List.length (((List.getD ins_3 1 ((([] : List Int), false), ([] : List Int)))).1).1)))
              (
              Option.bind (g_lodgeref3_element_0 N N args_1 i_2 ins_3 ((List.getD ins_3 0 ((([] : List Int), false), ([] : List Int))), ()) (List.getD (((List.getD ins_3 0 ((([] : List Int), false), ([] : List Int)))).1).1 1 (0 : Int)) (List.getD (((List.getD ins_3 1 ((([] : List Int), false), ([] : List Int)))).1).1 1 (0 : Int)) (0 : Int) (0 : Int)) fun y2 =>
              Option.bind (F_lodgeref3_Wide N (y2).1) fun y3 =>
              some y3)
              (
              none))
            (
            none))
          (
          none))
        (
        cond (decide (op_0 = (13 : Int)))
          (
          cond (decide (1 < (List.length ins_3)))
            (
            Option.bind (F_lodgeref3_conv N args_1 i_2 (List.getD ins_3 0 ((([] : List Int), false), ([] : List Int))) (List.getD ins_3 1 ((([] : List Int), false), ([] : List Int))) d_4) fun y4 =>
            some y4)
            (
            none))
          (
          cond (decide (op_0 = (14 : Int)))
            (
            Option.bind (F_lodgeref3_pool N (decide (op_0 = (15 : Int))) args_1 i_2 (List.getD ins_3 0 ((([] : List Int), false), ([] : List Int))) d_4) fun y5 =>
            some y5)
            (
            cond (decide (op_0 = (15 : Int)))
              (
              Option.bind (F_lodgeref3_pool N (decide (op_0 = (15 : Int))) args_1 i_2 (List.getD ins_3 0 ((([] : List Int), false), ([] : List Int))) d_4) fun y6 =>
              some y6)
              (
              cond (decide (op_0 = (16 : Int)))
                (
                cond (decide (1 < (List.length ins_3)))
                  (
                  Option.bind (F_lodgeref3_softmax N i_2 (List.getD ins_3 0 ((([] : List Int), false), ([] : List Int))) (List.getD ins_3 1 ((([] : List Int), false), ([] : List Int)))) fun y7 =>
                  some y7)
                  (
                  none))
                (
                cond (decide (op_0 = (17 : Int)))
                  (
                  cond (decide (1 < (List.length (((List.getD ins_3 0 ((([] : List Int), false), ([] : List Int)))).1).1)))
                    (
                    cond (decide (1 < (List.length ins_3)))
                      (
                      cond (decide (@Ne Int (List.getD (((List.getD ins_3 0 ((([] : List Int), false), ([] : List Int)))).1).1 1 (0 : Int)) (0 : Int)))
                        (
                        cond (decide ((0 : Int) ≤ (wi64 (Int.tdiv i_2 (List.getD (((List.getD ins_3 0 ((([] : List Int), false), ([] : List Int)))).1).1 1 (0 : Int))))))
                          (
                          cond (decide ((Int.toNat (wi64 (Int.tdiv i_2 (List.getD (((List.getD ins_3 0 ((([] : List Int), false), ([] : List Int)))).1).1 1 (0 : Int))))) < (List.length ((List.getD ins_3 1 ((([] : List Int), false), ([] : List Int)))).2)))
                            (
                            cond (decide (0 < (List.length (((List.getD ins_3 0 ((([] : List Int), false), ([] : List Int)))).1).1)))
                              (
                              Option.bind (F_lodgeref3_Cut N (List.getD ((List.getD ins_3 1 ((([] : List Int), false), ([] : List Int)))).2 (Int.toNat (wi64 (Int.tdiv i_2 (List.getD (((List.getD ins_3 0 ((([] : List Int), false), ([] : List Int)))).1).1 1 (0 : Int))))) (0 : Int)) (0 : Int) (wi64 ((List.getD (((List.getD ins_3 0 ((([] : List Int), false), ([] : List Int)))).1).1 0 (0 : Int)) - (1 : Int)))) fun y8 =>
                              cond (decide (@Ne Int (List.getD (((List.getD ins_3 0 ((([] : List Int), false), ([] : List Int)))).1).1 1 (0 : Int)) (0 : Int)))
                                (
                                cond (decide ((0 : Int) ≤ (wi64 ((wi64 ((y8).1 * (List.getD (((List.getD ins_3 0 ((([] : List Int), false), ([] : List Int)))).1).1 1 (0 : Int)))) + (Int.tmod i_2 (List.getD (((List.getD ins_3 0 ((([] : List Int), false), ([] : List Int)))).1).1 1 (0 : Int)))))))
                                  (
                                  cond (decide ((Int.toNat (wi64 ((wi64 ((y8).1 * (List.getD (((List.getD ins_3 0 ((([] : List Int), false), ([] : List Int)))).1).1 1 (0 : Int)))) + (Int.tmod i_2 (List.getD (((List.getD ins_3 0 ((([] : List Int), false), ([] : List Int)))).1).1 1 (0 : Int)))))) < (List.length ((List.getD ins_3 0 ((([] : List Int), false), ([] : List Int)))).2)))
                                    (
                                    some ((List.getD ((List.getD ins_3 0 ((([] : List Int), false), ([] : List Int)))).2 (Int.toNat (wi64 ((wi64 ((y8).1 * (List.getD (((List.getD ins_3 0 ((([] : List Int), false), ([] : List Int)))).1).1 1 (0 : Int)))) + (Int.tmod i_2 (List.getD (((List.getD ins_3 0 ((([] : List Int), false), ([] : List Int)))).1).1 1 (0 : Int)))))) (0 : Int)), ()))
                                    (
                                    none))
                                  (
                                  none))
                                (
                                none))
                              (
                              none))
                            (
                            none))
                          (
                          none))
                        (
                        none))
                      (
                      none))
                    (
                    none))
                  (
                  cond (decide (op_0 = (19 : Int)))
                    (
                    cond (decide ((0 : Int) ≤ (wi64 ((Nat.cast (List.length (((List.getD ins_3 0 ((([] : List Int), false), ([] : List Int)))).1).1) : Int) - (1 : Int)))))
                      (
                      cond (decide ((Int.toNat (wi64 ((Nat.cast (List.length (((List.getD ins_3 0 ((([] : List Int), false), ([] : List Int)))).1).1) : Int) - (1 : Int)))) < (List.length (((List.getD ins_3 0 ((([] : List Int), false), ([] : List Int)))).1).1)))
                        (
                        Option.bind (g_lodgeref3_element_1 N N op_0 i_2 ((List.getD ins_3 0 ((([] : List Int), false), ([] : List Int))), ()) (List.getD (((List.getD ins_3 0 ((([] : List Int), false), ([] : List Int)))).1).1 (Int.toNat (wi64 ((Nat.cast (List.length (((List.getD ins_3 0 ((([] : List Int), false), ([] : List Int)))).1).1) : Int) - (1 : Int)))) (0 : Int)) (0 : Int) (0 : Int) (0 : Int)) fun y9 =>
                        cond (decide ((y9).1 = (20 : Int)))
                          (
                          Option.bind (F_lodgeref3_Wide N (((y9).2).2).1) fun y10 =>
                          some y10)
                          (
                          some (((y9).2).1, ())))
                        (
                        none))
                      (
                      none))
                    (
                    cond (decide (op_0 = (20 : Int)))
                      (
                      cond (decide ((0 : Int) ≤ (wi64 ((Nat.cast (List.length (((List.getD ins_3 0 ((([] : List Int), false), ([] : List Int)))).1).1) : Int) - (1 : Int)))))
                        (
                        cond (decide ((Int.toNat (wi64 ((Nat.cast (List.length (((List.getD ins_3 0 ((([] : List Int), false), ([] : List Int)))).1).1) : Int) - (1 : Int)))) < (List.length (((List.getD ins_3 0 ((([] : List Int), false), ([] : List Int)))).1).1)))
                          (
                          Option.bind (g_lodgeref3_element_1 N N op_0 i_2 ((List.getD ins_3 0 ((([] : List Int), false), ([] : List Int))), ()) (List.getD (((List.getD ins_3 0 ((([] : List Int), false), ([] : List Int)))).1).1 (Int.toNat (wi64 ((Nat.cast (List.length (((List.getD ins_3 0 ((([] : List Int), false), ([] : List Int)))).1).1) : Int) - (1 : Int)))) (0 : Int)) (0 : Int) (0 : Int) (0 : Int)) fun y11 =>
                          cond (decide ((y11).1 = (20 : Int)))
                            (
                            Option.bind (F_lodgeref3_Wide N (((y11).2).2).1) fun y12 =>
                            some y12)
                            (
                            some (((y11).2).1, ())))
                          (
                          none))
                        (
                        none))
                      (
                      cond (decide (op_0 = (21 : Int)))
                        (
                        cond (decide (0 < (List.length (((List.getD ins_3 0 ((([] : List Int), false), ([] : List Int)))).1).1)))
                          (
                          cond (decide (@Ne Int (List.getD (((List.getD ins_3 0 ((([] : List Int), false), ([] : List Int)))).1).1 0 (0 : Int)) (0 : Int)))
                            (
                            cond (decide (1 < (List.length (((List.getD ins_3 0 ((([] : List Int), false), ([] : List Int)))).1).1)))
                              (
                              cond (decide (@Ne Int (List.getD (((List.getD ins_3 0 ((([] : List Int), false), ([] : List Int)))).1).1 0 (0 : Int)) (0 : Int)))
                                (
                                cond (decide ((0 : Int) ≤ (wi64 ((wi64 ((Int.tmod i_2 (List.getD (((List.getD ins_3 0 ((([] : List Int), false), ([] : List Int)))).1).1 0 (0 : Int))) * (List.getD (((List.getD ins_3 0 ((([] : List Int), false), ([] : List Int)))).1).1 1 (0 : Int)))) + (wi64 (Int.tdiv i_2 (List.getD (((List.getD ins_3 0 ((([] : List Int), false), ([] : List Int)))).1).1 0 (0 : Int))))))))
                                  (
                                  cond (decide ((Int.toNat (wi64 ((wi64 ((Int.tmod i_2 (List.getD (((List.getD ins_3 0 ((([] : List Int), false), ([] : List Int)))).1).1 0 (0 : Int))) * (List.getD (((List.getD ins_3 0 ((([] : List Int), false), ([] : List Int)))).1).1 1 (0 : Int)))) + (wi64 (Int.tdiv i_2 (List.getD (((List.getD ins_3 0 ((([] : List Int), false), ([] : List Int)))).1).1 0 (0 : Int))))))) < (List.length ((List.getD ins_3 0 ((([] : List Int), false), ([] : List Int)))).2)))
                                    (
                                    some ((List.getD ((List.getD ins_3 0 ((([] : List Int), false), ([] : List Int)))).2 (Int.toNat (wi64 ((wi64 ((Int.tmod i_2 (List.getD (((List.getD ins_3 0 ((([] : List Int), false), ([] : List Int)))).1).1 0 (0 : Int))) * (List.getD (((List.getD ins_3 0 ((([] : List Int), false), ([] : List Int)))).1).1 1 (0 : Int)))) + (wi64 (Int.tdiv i_2 (List.getD (((List.getD ins_3 0 ((([] : List Int), false), ([] : List Int)))).1).1 0 (0 : Int))))))) (0 : Int)), ()))
                                    (
                                    none))
                                  (
                                  none))
                                (
                                none))
                              (
                              none))
                            (
                            none))
                          (
                          none))
                        (
                        cond (decide ((0 : Int) ≤ i_2))
                          (
                          cond (decide ((Int.toNat i_2) < (List.length ((List.getD ins_3 0 ((([] : List Int), false), ([] : List Int)))).2)))
                            (
                            some ((List.getD ((List.getD ins_3 0 ((([] : List Int), false), ([] : List Int)))).2 (Int.toNat i_2) (0 : Int)), ()))
                            (
                            none))
                          (
                          none))))))))))))
    (
    none)

abbrev c_lodgeref3_element (N : Nat) : CallSpec := ⟨47, ps_lodgeref3_element, rs_lodgeref3_element, fun x => F_lodgeref3_element N x.1 x.2.1 x.2.2.1 x.2.2.2.1 x.2.2.2.2.1⟩
abbrev l_lodgeref3_element_1 (N : Nat) : LoopSpec := ⟨1, h_lodgeref3_element_1, e_lodgeref3_element_1, fun x => g_lodgeref3_element_1 N N x.1 x.2.1 x.2.2.1 x.2.2.2.1 x.2.2.2.2.1 x.2.2.2.2.2.1 x.2.2.2.2.2.2.1⟩
abbrev l_lodgeref3_element_0 (N : Nat) : LoopSpec := ⟨0, h_lodgeref3_element_0, e_lodgeref3_element_0, fun x => g_lodgeref3_element_0 N N x.1 x.2.1 x.2.2.1 x.2.2.2.1 x.2.2.2.2.1 x.2.2.2.2.2.1 x.2.2.2.2.2.2.1 x.2.2.2.2.2.2.2.1⟩

theorem cs_lodgeref3_element_ok (S : Nat → Addr) (N : Nat) : CallsOK Go.Proofs.Tryd.prog E S (cs_lodgeref3_element N) :=
  .cons (F_lodgeref3_Wide_ok S N) (.cons (F_lodgeref3_Cut_ok S N) (.cons (F_lodgeref3_Value_ok S N) (.cons (F_lodgeref3_conv_ok S N) (.cons (F_lodgeref3_pool_ok S N) (.cons (F_lodgeref3_softmax_ok S N) (.nil))))))
noncomputable abbrev b_lodgeref3_element_1 : Code := (loopsOf b_lodgeref3_element).getD 1 .skip
theorem g_lodgeref3_element_1_ok (S : Nat → Addr) (N : Nat) : ∀ n x y, (fun (x : Val (slotsTy h_lodgeref3_element_1)) => g_lodgeref3_element_1 N n x.1 x.2.1 x.2.2.1 x.2.2.2.1 x.2.2.2.2.1 x.2.2.2.2.2.1 x.2.2.2.2.2.2.1) x = some y → LoopCon Go.Proofs.Tryd.prog E S b_lodgeref3_element_1 (encSlots h_lodgeref3_element_1 x) (encEx e_lodgeref3_element_1 y).1 (encEx e_lodgeref3_element_1 y).2 :=
  loop_spec E_ok mixed (cs_lodgeref3_element_ok S N) (all := loopsOf b_lodgeref3_element) (ls := []) (.nil) (i := 1) (by kernel_rfl) (inner_of (by kernel_rfl)) (head := h_lodgeref3_element_1) (ex := e_lodgeref3_element_1) (fun n (x : Val (slotsTy h_lodgeref3_element_1)) => g_lodgeref3_element_1 N n x.1 x.2.1 x.2.2.1 x.2.2.2.1 x.2.2.2.2.1 x.2.2.2.2.2.1 x.2.2.2.2.2.2.1) (fun _ => rfl) (fun n x => by kernel_rfl)
noncomputable abbrev b_lodgeref3_element_0 : Code := (loopsOf b_lodgeref3_element).getD 0 .skip
theorem g_lodgeref3_element_0_ok (S : Nat → Addr) (N : Nat) : ∀ n x y, (fun (x : Val (slotsTy h_lodgeref3_element_0)) => g_lodgeref3_element_0 N n x.1 x.2.1 x.2.2.1 x.2.2.2.1 x.2.2.2.2.1 x.2.2.2.2.2.1 x.2.2.2.2.2.2.1 x.2.2.2.2.2.2.2.1) x = some y → LoopCon Go.Proofs.Tryd.prog E S b_lodgeref3_element_0 (encSlots h_lodgeref3_element_0 x) (encEx e_lodgeref3_element_0 y).1 (encEx e_lodgeref3_element_0 y).2 :=
  loop_spec E_ok mixed (cs_lodgeref3_element_ok S N) (all := loopsOf b_lodgeref3_element) (ls := []) (.nil) (i := 0) (by kernel_rfl) (inner_of (by kernel_rfl)) (head := h_lodgeref3_element_0) (ex := e_lodgeref3_element_0) (fun n (x : Val (slotsTy h_lodgeref3_element_0)) => g_lodgeref3_element_0 N n x.1 x.2.1 x.2.2.1 x.2.2.2.1 x.2.2.2.2.1 x.2.2.2.2.2.1 x.2.2.2.2.2.2.1 x.2.2.2.2.2.2.2.1) (fun _ => rfl) (fun n x => by kernel_rfl)
theorem F_lodgeref3_element_ok (S : Nat → Addr) (N : Nat) : ∀ x y, (c_lodgeref3_element N).g x = some y → FCon Go.Proofs.Tryd.prog E S 47 ps_lodgeref3_element rs_lodgeref3_element x y := by
  intro x y h
  exact fun_spec E_ok mixed (cs_lodgeref3_element_ok S N) (f := 47) (fi := ⟨b_lodgeref3_element, 247, Go.Proofs.Tryd.f47.results.toList⟩) (by kernel_rfl) (ls := [l_lodgeref3_element_1 N, l_lodgeref3_element_0 N]) (.cons (by kernel_rfl) (g_lodgeref3_element_1_ok S N N) (.cons (by kernel_rfl) (g_lodgeref3_element_0_ok S N N) (.nil))) (by kernel_rfl) (ps := ps_lodgeref3_element) (rs := rs_lodgeref3_element) (Eq.trans (b := F_lodgeref3_element N x.1 x.2.1 x.2.2.1 x.2.2.2.1 x.2.2.2.2.1) (by kernel_rfl) h)

/-! lodge/lodgeref3.Apply -/

abbrev ps_lodgeref3_Apply : List Ty := [(.int .i64), (.sl (.int .i64)), (.sl (.st (.pair (.st (.pair (.sl (.int .i64)) .bool)) (.sl (.int .i64)))))]
abbrev rs_lodgeref3_Apply : List Slot := [.ag [.sl (.int .i64), .d .bool, .sl (.int .i64)], .data (.st (.pair (.int .i64) (.pair .bool (.int .i64))))]
abbrev cs_lodgeref3_Apply (N : Nat) : List CallSpec := [c_lodgeref_Bare N, c_lodgeref_None N, c_lodgeref3_Valid N, c_lodgeref3_descsOf N, c_lodgeref3_Result N, c_lodgeref3_Zero N, c_lodgeref3_element N]
noncomputable abbrev b_lodgeref3_Apply : Code := (Go.Proofs.Tryd.f22.body).getD .skip

abbrev h_lodgeref3_Apply_0 : List Slot := [.data (.int .i64), .data (.sl (.int .i64)), .data (.sl (.st (.pair (.st (.pair (.sl (.int .i64)) .bool)) (.sl (.int .i64))))), .dead, .dead, .dead, .box [.sl (.int .i64), .d .bool, .sl (.int .i64)], .box [.d (.st (.pair (.int .i64) (.pair .bool (.int .i64))))], .data (.int .i64), .dead, .dead, .dead, .dead, .dead, .dead, .dead, .dead, .dead, .dead, .dead, .dead, .dead, .dead, .dead, .dead, .dead, .dead, .dead, .dead, .dead, .dead, .dead, .dead, .dead, .dead, .dead, .dead, .dead, .dead, .dead, .dead, .dead, .dead, .dead, .dead, .dead, .dead, .dead, .dead, .dead, .dead, .dead, .dead, .dead, .dead, .dead, .dead, .dead, .dead, .dead, .dead, .dead, .dead, .dead]
abbrev e_lodgeref3_Apply_0 : List (AX × List Slot) := [(AX.exit 0, [.data (.int .i64), .data (.sl (.int .i64)), .data (.sl (.st (.pair (.st (.pair (.sl (.int .i64)) .bool)) (.sl (.int .i64))))), .dead, .dead, .dead, .box [.sl (.int .i64), .d .bool, .sl (.int .i64)], .box [.d (.st (.pair (.int .i64) (.pair .bool (.int .i64))))], .dead, .dead, .dead, .dead, .dead, .dead, .dead, .dead, .dead, .dead, .dead, .dead, .dead, .dead, .dead, .dead, .dead, .dead, .dead, .dead, .dead, .dead, .dead, .dead, .dead, .dead, .dead, .dead, .dead, .dead, .dead, .dead, .dead, .dead, .dead, .dead, .dead, .dead, .dead, .dead, .dead, .dead, .dead, .dead, .dead, .dead, .dead, .dead, .dead, .dead, .dead, .dead, .dead, .dead, .dead, .dead]), (AX.ret, [.dead, .dead, .dead, .dead, .dead, .dead, .box [.sl (.int .i64), .d .bool, .sl (.int .i64)], .box [.d (.st (.pair (.int .i64) (.pair .bool (.int .i64))))], .dead, .dead, .dead, .dead, .dead, .dead, .dead, .dead, .dead, .dead, .dead, .dead, .dead, .dead, .dead, .dead, .dead, .dead, .dead, .dead, .dead, .dead, .dead, .dead, .dead, .dead, .dead, .dead, .dead, .dead, .dead, .dead, .dead, .dead, .dead, .dead, .dead, .dead, .dead, .dead, .dead, .dead, .dead, .dead, .dead, .dead, .dead, .dead, .dead, .dead, .dead, .dead, .dead, .dead, .dead, .dead])]
def g_lodgeref3_Apply_0 (N : Nat) : Nat → Int → List Int → List (((List Int × Bool) × List Int)) → (List Int × (Bool × (List Int × Unit))) → ((Int × (Bool × Int)) × Unit) → Int → Option (Sum (Int × (List Int × (List (((List Int × Bool) × List Int)) × ((List Int × (Bool × (List Int × Unit))) × (((Int × (Bool × Int)) × Unit) × Unit))))) ((List Int × (Bool × (List Int × Unit))) × (((Int × (Bool × Int)) × Unit) × Unit)))
  | 0, _, _, _, _, _, _ => none
  | n + 1, op_0, args_1, ins_2, t_6, t_7, i_8 =>
    cond (decide (i_8 < (Nat.cast (List.length ins_2) : Int)))
      (
      cond (decide ((0 : Int) ≤ i_8))
        (
        cond (decide ((Int.toNat i_8) < (List.length ins_2)))
          (
          Option.bind (F_lodgeref3_Valid N (List.getD ins_2 (Int.toNat i_8) ((([] : List Int), false), ([] : List Int)))) fun y1 =>
          cond (decide (@Ne Int ((y1).1).1 (0 : Int)))
            (
            some (Sum.inr ((([] : List Int), (false, (([] : List Int), ()))), (y1, ()))))
            (
            cond (decide ((List.length (t_6).1) = (List.length (t_6).1)))
              (
              cond (decide ((List.length (((t_6).2).2).1) = (List.length (((t_6).2).2).1)))
                (
                (g_lodgeref3_Apply_0 N n op_0 args_1 ins_2 t_6 t_7 (wi64 (i_8 + (1 : Int)))))
                (
                none))
              (
              none)))
          (
          none))
        (
        none))
      (
      cond (decide ((List.length (t_6).1) = (List.length (t_6).1)))
        (
        cond (decide ((List.length (((t_6).2).2).1) = (List.length (((t_6).2).2).1)))
          (
          some (Sum.inl (op_0, (args_1, (ins_2, (t_6, (t_7, ())))))))
          (
          none))
        (
        none))

abbrev h_lodgeref3_Apply_1 : List Slot := [.data (.int .i64), .data (.sl (.int .i64)), .data (.sl (.st (.pair (.st (.pair (.sl (.int .i64)) .bool)) (.sl (.int .i64))))), .dead, .dead, .dead, .box [.sl (.int .i64), .d .bool, .sl (.int .i64)], .box [.d (.st (.pair (.int .i64) (.pair .bool (.int .i64))))], .dead, .dead, .box [.sl (.int .i64), .d .bool], .dead, .box [.sl (.int .i64), .d .bool, .sl (.int .i64)], .data (.int .i64), .dead, .dead, .dead, .dead, .dead, .dead, .dead, .dead, .dead, .dead, .dead, .dead, .dead, .dead, .dead, .dead, .dead, .dead, .dead, .dead, .dead, .dead, .dead, .dead, .dead, .dead, .dead, .dead, .dead, .dead, .dead, .dead, .dead, .dead, .dead, .dead, .dead, .dead, .dead, .dead, .dead, .dead, .dead, .dead, .dead, .dead, .dead, .dead, .dead, .dead]
abbrev e_lodgeref3_Apply_1 : List (AX × List Slot) := [(AX.exit 2, [.dead, .dead, .dead, .dead, .dead, .dead, .box [.sl (.int .i64), .d .bool, .sl (.int .i64)], .box [.d (.st (.pair (.int .i64) (.pair .bool (.int .i64))))], .dead, .dead, .dead, .dead, .box [.sl (.int .i64), .d .bool, .sl (.int .i64)], .dead, .dead, .dead, .dead, .dead, .dead, .dead, .dead, .dead, .dead, .dead, .dead, .dead, .dead, .dead, .dead, .dead, .dead, .dead, .dead, .dead, .dead, .dead, .dead, .dead, .dead, .dead, .dead, .dead, .dead, .dead, .dead, .dead, .dead, .dead, .dead, .dead, .dead, .dead, .dead, .dead, .dead, .dead, .dead, .dead, .dead, .dead, .dead, .dead, .dead, .dead])]
def g_lodgeref3_Apply_1 (N : Nat) : Nat → Int → List Int → List (((List Int × Bool) × List Int)) → (List Int × (Bool × (List Int × Unit))) → ((Int × (Bool × Int)) × Unit) → (List Int × (Bool × Unit)) → (List Int × (Bool × (List Int × Unit))) → Int → Option ((List Int × (Bool × (List Int × Unit))) × (((Int × (Bool × Int)) × Unit) × ((List Int × (Bool × (List Int × Unit))) × Unit)))
  | 0, _, _, _, _, _, _, _, _ => none
  | n + 1, op_0, args_1, ins_2, t_6, t_7, d_10, t_12, i_13 =>
    cond (decide (i_13 < (Nat.cast (List.length (((t_12).2).2).1) : Int)))
      (
      cond (decide (((0 : Nat) + (List.length (d_10).1)) ≤ (List.length (d_10).1)))
        (
        Option.bind (F_lodgeref3_element N op_0 args_1 i_13 ins_2 ((List.take (List.length (d_10).1) (d_10).1), ((d_10).2).1)) fun y8 =>
        cond (decide ((0 : Int) ≤ i_13))
          (
          cond (decide ((Int.toNat i_13) < (List.length (((t_12).2).2).1)))
            (
            cond (decide (((0 : Nat) + (Int.toNat i_13)) < (List.length (((t_12).2).2).1)))
              (
              cond (decide ((List.length (t_6).1) = (List.length (t_6).1)))
                (
                cond (decide ((List.length (((t_6).2).2).1) = (List.length (((t_6).2).2).1)))
                  (
                  cond (decide ((List.length (d_10).1) = (List.length (d_10).1)))
                    (
                    cond (decide ((List.length (t_12).1) = (List.length (t_12).1)))
                      (
                      cond (decide ((List.length (((t_12).2).2).1) = (List.length (List.set (((t_12).2).2).1 ((0 : Nat) + (Int.toNat i_13)) (y8).1))))
                        (
                        (g_lodgeref3_Apply_1 N n op_0 args_1 ins_2 t_6 t_7 d_10 ((t_12).1, (((t_12).2).1, ((List.set (((t_12).2).2).1 ((0 : Nat) + (Int.toNat i_13)) (y8).1), ()))) (wi64 (i_13 + (1 : Int)))))
                        (
                        none))
                      (
                      none))
                    (
                    none))
                  (
                  none))
                (
                none))
              (
              none))
            (
            none))
          (
          none))
        (
        none))
      (
      cond (decide ((List.length (t_6).1) = (List.length (t_6).1)))
        (
        cond (decide ((List.length (((t_6).2).2).1) = (List.length (((t_6).2).2).1)))
          (
          cond (decide ((List.length (t_12).1) = (List.length (t_12).1)))
            (
            cond (decide ((List.length (((t_12).2).2).1) = (List.length (((t_12).2).2).1)))
              (
              some (t_6, (t_7, (t_12, ()))))
              (
              none))
            (
            none))
          (
          none))
        (
        none))

def F_lodgeref3_Apply (N : Nat) (op_0 : Int) (args_1 : List Int) (ins_2 : List (((List Int × Bool) × List Int))) : Option ((List Int × (Bool × (List Int × Unit))) × ((Int × (Bool × Int)) × Unit)) :=
  Option.bind (g_lodgeref3_Apply_0 N N op_0 args_1 ins_2 (([] : List Int), (false, (([] : List Int), ()))) (((0 : Int), (false, (0 : Int))), ()) (0 : Int)) fun y0 =>
  Sum.elim (fun y1 =>
    Option.bind (F_lodgeref3_descsOf N (((y1).2).2).1) fun y2 =>
    cond (decide (((0 : Nat) + (List.length (y2).1)) ≤ (List.length (y2).1)))
      (
      Option.bind (F_lodgeref3_Result N (y1).1 ((y1).2).1 (List.take (List.length (y2).1) (y2).1)) fun y3 =>
      cond (decide (@Ne Int ((y3).2).1 (0 : Int)))
        (
        Option.bind (F_lodgeref_Bare N ((y3).2).1) fun y4 =>
        some ((([] : List Int), (false, (([] : List Int), ()))), y4))
        (
        cond (decide (((0 : Nat) + (List.length ((y3).1).1)) ≤ (List.length ((y3).1).1)))
          (
          Option.bind (F_lodgeref3_Zero N ((List.take (List.length ((y3).1).1) ((y3).1).1), (((y3).1).2).1)) fun y5 =>
          cond (decide ((List.length (((((y1).2).2).2).1).1) = (List.length (((((y1).2).2).2).1).1)))
            (
            cond (decide ((List.length (((((((y1).2).2).2).1).2).2).1) = (List.length (((((((y1).2).2).2).1).2).2).1)))
              (
              cond (decide ((List.length ((y3).1).1) = (List.length ((y3).1).1)))
                (
                cond (decide ((List.length ((y5).1).1) = (List.length ((y5).1).1)))
                  (
                  cond (decide ((List.length ((((y5).1).2).2).1) = (List.length ((((y5).1).2).2).1)))
                    (
                    Option.bind (g_lodgeref3_Apply_1 N N (y1).1 ((y1).2).1 (((y1).2).2).1 ((((y1).2).2).2).1 (((((y1).2).2).2).2).1 (y3).1 (y5).1 (0 : Int)) fun y6 =>
                    Option.bind (F_lodgeref_None N) fun y7 =>
                    cond (decide ((List.length ((((y6).2).2).1).1) = (List.length ((((y6).2).2).1).1)))
                      (
                      cond (decide ((List.length ((((((y6).2).2).1).2).2).1) = (List.length ((((((y6).2).2).1).2).2).1)))
                        (
                        some ((((y6).2).2).1, y7))
                        (
                        none))
                      (
                      none))
                    (
                    none))
                  (
                  none))
                (
                none))
              (
              none))
            (
            none))
          (
          none)))
      (
      none))
    (fun y8 =>
    cond (decide ((List.length ((y8).1).1) = (List.length ((y8).1).1)))
      (
      cond (decide ((List.length ((((y8).1).2).2).1) = (List.length ((((y8).1).2).2).1)))
        (
        some ((y8).1, ((y8).2).1))
        (
        none))
      (
      none)) y0

abbrev c_lodgeref3_Apply (N : Nat) : CallSpec := ⟨22, ps_lodgeref3_Apply, rs_lodgeref3_Apply, fun x => F_lodgeref3_Apply N x.1 x.2.1 x.2.2.1⟩
abbrev l_lodgeref3_Apply_1 (N : Nat) : LoopSpec := ⟨1, h_lodgeref3_Apply_1, e_lodgeref3_Apply_1, fun x => g_lodgeref3_Apply_1 N N x.1 x.2.1 x.2.2.1 x.2.2.2.1 x.2.2.2.2.1 x.2.2.2.2.2.1 x.2.2.2.2.2.2.1 x.2.2.2.2.2.2.2.1⟩
abbrev l_lodgeref3_Apply_0 (N : Nat) : LoopSpec := ⟨0, h_lodgeref3_Apply_0, e_lodgeref3_Apply_0, fun x => g_lodgeref3_Apply_0 N N x.1 x.2.1 x.2.2.1 x.2.2.2.1 x.2.2.2.2.1 x.2.2.2.2.2.1⟩

theorem cs_lodgeref3_Apply_ok (S : Nat → Addr) (N : Nat) : CallsOK Go.Proofs.Tryd.prog E S (cs_lodgeref3_Apply N) :=
  .cons (F_lodgeref_Bare_ok S N) (.cons (F_lodgeref_None_ok S N) (.cons (F_lodgeref3_Valid_ok S N) (.cons (F_lodgeref3_descsOf_ok S N) (.cons (F_lodgeref3_Result_ok S N) (.cons (F_lodgeref3_Zero_ok S N) (.cons (F_lodgeref3_element_ok S N) (.nil)))))))
noncomputable abbrev b_lodgeref3_Apply_1 : Code := (loopsOf b_lodgeref3_Apply).getD 1 .skip
theorem g_lodgeref3_Apply_1_ok (S : Nat → Addr) (N : Nat) : ∀ n x y, (fun (x : Val (slotsTy h_lodgeref3_Apply_1)) => g_lodgeref3_Apply_1 N n x.1 x.2.1 x.2.2.1 x.2.2.2.1 x.2.2.2.2.1 x.2.2.2.2.2.1 x.2.2.2.2.2.2.1 x.2.2.2.2.2.2.2.1) x = some y → LoopCon Go.Proofs.Tryd.prog E S b_lodgeref3_Apply_1 (encSlots h_lodgeref3_Apply_1 x) (encEx e_lodgeref3_Apply_1 y).1 (encEx e_lodgeref3_Apply_1 y).2 :=
  loop_spec E_ok mixed (cs_lodgeref3_Apply_ok S N) (all := loopsOf b_lodgeref3_Apply) (ls := []) (.nil) (i := 1) (by kernel_rfl) (inner_of (by kernel_rfl)) (head := h_lodgeref3_Apply_1) (ex := e_lodgeref3_Apply_1) (fun n (x : Val (slotsTy h_lodgeref3_Apply_1)) => g_lodgeref3_Apply_1 N n x.1 x.2.1 x.2.2.1 x.2.2.2.1 x.2.2.2.2.1 x.2.2.2.2.2.1 x.2.2.2.2.2.2.1 x.2.2.2.2.2.2.2.1) (fun _ => rfl) (fun n x => by kernel_rfl)
noncomputable abbrev b_lodgeref3_Apply_0 : Code := (loopsOf b_lodgeref3_Apply).getD 0 .skip
theorem g_lodgeref3_Apply_0_ok (S : Nat → Addr) (N : Nat) : ∀ n x y, (fun (x : Val (slotsTy h_lodgeref3_Apply_0)) => g_lodgeref3_Apply_0 N n x.1 x.2.1 x.2.2.1 x.2.2.2.1 x.2.2.2.2.1 x.2.2.2.2.2.1) x = some y → LoopCon Go.Proofs.Tryd.prog E S b_lodgeref3_Apply_0 (encSlots h_lodgeref3_Apply_0 x) (encEx e_lodgeref3_Apply_0 y).1 (encEx e_lodgeref3_Apply_0 y).2 :=
  loop_spec E_ok mixed (cs_lodgeref3_Apply_ok S N) (all := loopsOf b_lodgeref3_Apply) (ls := []) (.nil) (i := 0) (by kernel_rfl) (inner_of (by kernel_rfl)) (head := h_lodgeref3_Apply_0) (ex := e_lodgeref3_Apply_0) (fun n (x : Val (slotsTy h_lodgeref3_Apply_0)) => g_lodgeref3_Apply_0 N n x.1 x.2.1 x.2.2.1 x.2.2.2.1 x.2.2.2.2.1 x.2.2.2.2.2.1) (fun _ => rfl) (fun n x => by kernel_rfl)
theorem F_lodgeref3_Apply_ok (S : Nat → Addr) (N : Nat) : ∀ x y, (c_lodgeref3_Apply N).g x = some y → FCon Go.Proofs.Tryd.prog E S 22 ps_lodgeref3_Apply rs_lodgeref3_Apply x y := by
  intro x y h
  exact fun_spec E_ok mixed (cs_lodgeref3_Apply_ok S N) (f := 22) (fi := ⟨b_lodgeref3_Apply, 64, Go.Proofs.Tryd.f22.results.toList⟩) (by kernel_rfl) (ls := [l_lodgeref3_Apply_1 N, l_lodgeref3_Apply_0 N]) (.cons (by kernel_rfl) (g_lodgeref3_Apply_1_ok S N N) (.cons (by kernel_rfl) (g_lodgeref3_Apply_0_ok S N N) (.nil))) (by kernel_rfl) (ps := ps_lodgeref3_Apply) (rs := rs_lodgeref3_Apply) (Eq.trans (b := F_lodgeref3_Apply N x.1 x.2.1 x.2.2.1) (by kernel_rfl) h)

/-! lodge/lodgesee.sentinels -/

abbrev ps_lodgesee_sentinels : List Ty := []
abbrev rs_lodgesee_sentinels : List Slot := [.sl .err]
abbrev cs_lodgesee_sentinels (N : Nat) : List CallSpec := []
noncomputable abbrev b_lodgesee_sentinels : Code := (Go.Proofs.Tryd.f102.body).getD .skip

def F_lodgesee_sentinels (N : Nat)  : Option (List Er × Unit) :=
  some (((Go.Eng.Er.s ErrShape) :: ((Go.Eng.Er.s ErrRange) :: ((Go.Eng.Er.s ErrKind) :: ((Go.Eng.Er.s ErrMany) :: ((Go.Eng.Er.s ErrEnd) :: ((Go.Eng.Er.s ErrRoom) :: ((Go.Eng.Er.s ErrNone) :: ((Go.Eng.Er.s ErrAlias) :: ((Go.Eng.Er.s ErrCost) :: ((Go.Eng.Er.s ErrJump) :: ((Go.Eng.Er.s ErrCycle) :: ((Go.Eng.Er.s ErrFuel) :: ((Go.Eng.Er.s ErrFull) :: ((Go.Eng.Er.s ErrQuota) :: ((Go.Eng.Er.s ErrCap) :: ((Go.Eng.Er.s ErrStale) :: ((Go.Eng.Er.s ErrTag) :: ((Go.Eng.Er.s ErrOld) :: ((Go.Eng.Er.s ErrTenant) :: ((Go.Eng.Er.s ErrWord) :: ((Go.Eng.Er.s ErrNumber) :: ([] : List Go.Eng.Er)))))))))))))))))))))), ())

abbrev c_lodgesee_sentinels (N : Nat) : CallSpec := ⟨102, ps_lodgesee_sentinels, rs_lodgesee_sentinels, fun x => F_lodgesee_sentinels N ⟩

theorem cs_lodgesee_sentinels_ok (S : Nat → Addr) (N : Nat) : CallsOK Go.Proofs.Tryd.prog E S (cs_lodgesee_sentinels N) :=
  .nil
theorem F_lodgesee_sentinels_ok (S : Nat → Addr) (N : Nat) : ∀ x y, (c_lodgesee_sentinels N).g x = some y → FCon Go.Proofs.Tryd.prog E S 102 ps_lodgesee_sentinels rs_lodgesee_sentinels x y := by
  intro x y h
  exact fun_spec E_ok mixed (cs_lodgesee_sentinels_ok S N) (f := 102) (fi := ⟨b_lodgesee_sentinels, 23, Go.Proofs.Tryd.f102.results.toList⟩) (by kernel_rfl) (ls := []) (.nil) (by kernel_rfl) (ps := ps_lodgesee_sentinels) (rs := rs_lodgesee_sentinels) (Eq.trans (b := F_lodgesee_sentinels N ) (by kernel_rfl) h)

/-! lodge/lodgesee.Alike -/

abbrev ps_lodgesee_Alike : List Ty := [.err, .err]
abbrev rs_lodgesee_Alike : List Slot := [.data .bool]
abbrev cs_lodgesee_Alike (N : Nat) : List CallSpec := []
noncomputable abbrev b_lodgesee_Alike : Code := (Go.Proofs.Tryd.f103.body).getD .skip

def F_lodgesee_Alike (N : Nat) (a_0 : Er) (b_1 : Er) : Option (Bool × Unit) :=
  cond (Go.Eng.Er.isNil a_0)
    (
    cond (Go.Eng.Er.isNil a_0)
      (
      some ((Go.Eng.Er.isNil b_1), ()))
      (
      some (false, ())))
    (
    cond (Go.Eng.Er.isNil b_1)
      (
      cond (Go.Eng.Er.isNil a_0)
        (
        some ((Go.Eng.Er.isNil b_1), ()))
        (
        some (false, ())))
      (
      cond (Go.Eng.okEq a_0 b_1)
        (
        some ((decide (a_0 = b_1)), ()))
        (
        none)))

abbrev c_lodgesee_Alike (N : Nat) : CallSpec := ⟨103, ps_lodgesee_Alike, rs_lodgesee_Alike, fun x => F_lodgesee_Alike N x.1 x.2.1⟩

theorem cs_lodgesee_Alike_ok (S : Nat → Addr) (N : Nat) : CallsOK Go.Proofs.Tryd.prog E S (cs_lodgesee_Alike N) :=
  .nil
theorem F_lodgesee_Alike_ok (S : Nat → Addr) (N : Nat) : ∀ x y, (c_lodgesee_Alike N).g x = some y → FCon Go.Proofs.Tryd.prog E S 103 ps_lodgesee_Alike rs_lodgesee_Alike x y := by
  intro x y h
  exact fun_spec E_ok mixed (cs_lodgesee_Alike_ok S N) (f := 103) (fi := ⟨b_lodgesee_Alike, 20, Go.Proofs.Tryd.f103.results.toList⟩) (by kernel_rfl) (ls := []) (.nil) (by kernel_rfl) (ps := ps_lodgesee_Alike) (rs := rs_lodgesee_Alike) (Eq.trans (b := F_lodgesee_Alike N x.1 x.2.1) (by kernel_rfl) h)

/-! lodge/lodgesee.sentinel -/

abbrev ps_lodgesee_sentinel : List Ty := [.err]
abbrev rs_lodgesee_sentinel : List Slot := [.data (.int .i64)]
abbrev cs_lodgesee_sentinel (N : Nat) : List CallSpec := [c_lodgesee_sentinels N, c_lodgesee_Alike N]
noncomputable abbrev b_lodgesee_sentinel : Code := (Go.Proofs.Tryd.f88.body).getD .skip

abbrev h_lodgesee_sentinel_0 : List Slot := [.data .err, .dead, .dead, .sl .err, .data (.int .i64), .dead, .dead, .dead, .dead, .dead, .dead, .dead, .dead, .dead, .dead, .dead, .dead, .dead, .dead, .dead]
abbrev e_lodgesee_sentinel_0 : List (AX × List Slot) := [(AX.exit 0, [.dead, .dead, .dead, .dead, .dead, .dead, .dead, .dead, .dead, .dead, .dead, .dead, .dead, .dead, .dead, .dead, .dead, .dead, .dead, .dead]), (AX.ret, [.dead, .dead, .data (.int .i64), .dead, .dead, .dead, .dead, .dead, .dead, .dead, .dead, .dead, .dead, .dead, .dead, .dead, .dead, .dead, .dead, .dead])]
def g_lodgesee_sentinel_0 (N : Nat) : Nat → Er → List Er → Int → Option (Sum Unit (Int × Unit))
  | 0, _, _, _ => none
  | n + 1, e_0, l_3, i_4 =>
    cond (decide (i_4 < (Nat.cast (List.length l_3) : Int)))
      (
      cond (decide ((0 : Int) ≤ i_4))
        (
        cond (decide ((Int.toNat i_4) < (List.length l_3)))
          (
          cond (decide (((0 : Nat) + (Int.toNat i_4)) < (List.length l_3)))
            (
            Option.bind (F_lodgesee_Alike N e_0 (List.getD l_3 ((0 : Nat) + (Int.toNat i_4)) Go.Eng.Er.nil)) fun y2 =>
            cond (y2).1
              (
              some (Sum.inr ((wi64 ((101 : Int) + i_4)), ())))
              (
              cond (decide ((List.length l_3) = (List.length l_3)))
                (
                (g_lodgesee_sentinel_0 N n e_0 l_3 (wi64 (i_4 + (1 : Int)))))
                (
                none)))
            (
            none))
          (
          none))
        (
        none))
      (
      some (Sum.inl ()))

def F_lodgesee_sentinel (N : Nat) (e_0 : Er) : Option (Int × Unit) :=
  Option.bind (F_lodgesee_sentinels N) fun y0 =>
  cond (decide ((List.length (y0).1) = (List.length (y0).1)))
    (
    Option.bind (g_lodgesee_sentinel_0 N N e_0 (y0).1 (0 : Int)) fun y1 =>
    Sum.elim (fun y2 =>
      some ((-(1 : Int)), ()))
      (fun y3 =>
      some y3) y1)
    (
    none)

abbrev c_lodgesee_sentinel (N : Nat) : CallSpec := ⟨88, ps_lodgesee_sentinel, rs_lodgesee_sentinel, fun x => F_lodgesee_sentinel N x.1⟩
abbrev l_lodgesee_sentinel_0 (N : Nat) : LoopSpec := ⟨0, h_lodgesee_sentinel_0, e_lodgesee_sentinel_0, fun x => g_lodgesee_sentinel_0 N N x.1 x.2.1 x.2.2.1⟩

theorem cs_lodgesee_sentinel_ok (S : Nat → Addr) (N : Nat) : CallsOK Go.Proofs.Tryd.prog E S (cs_lodgesee_sentinel N) :=
  .cons (F_lodgesee_sentinels_ok S N) (.cons (F_lodgesee_Alike_ok S N) (.nil))
noncomputable abbrev b_lodgesee_sentinel_0 : Code := (loopsOf b_lodgesee_sentinel).getD 0 .skip
theorem g_lodgesee_sentinel_0_ok (S : Nat → Addr) (N : Nat) : ∀ n x y, (fun (x : Val (slotsTy h_lodgesee_sentinel_0)) => g_lodgesee_sentinel_0 N n x.1 x.2.1 x.2.2.1) x = some y → LoopCon Go.Proofs.Tryd.prog E S b_lodgesee_sentinel_0 (encSlots h_lodgesee_sentinel_0 x) (encEx e_lodgesee_sentinel_0 y).1 (encEx e_lodgesee_sentinel_0 y).2 :=
  loop_spec E_ok mixed (cs_lodgesee_sentinel_ok S N) (all := loopsOf b_lodgesee_sentinel) (ls := []) (.nil) (i := 0) (by kernel_rfl) (inner_of (by kernel_rfl)) (head := h_lodgesee_sentinel_0) (ex := e_lodgesee_sentinel_0) (fun n (x : Val (slotsTy h_lodgesee_sentinel_0)) => g_lodgesee_sentinel_0 N n x.1 x.2.1 x.2.2.1) (fun _ => rfl) (fun n x => by kernel_rfl)
theorem F_lodgesee_sentinel_ok (S : Nat → Addr) (N : Nat) : ∀ x y, (c_lodgesee_sentinel N).g x = some y → FCon Go.Proofs.Tryd.prog E S 88 ps_lodgesee_sentinel rs_lodgesee_sentinel x y := by
  intro x y h
  exact fun_spec E_ok mixed (cs_lodgesee_sentinel_ok S N) (f := 88) (fi := ⟨b_lodgesee_sentinel, 20, Go.Proofs.Tryd.f88.results.toList⟩) (by kernel_rfl) (ls := [l_lodgesee_sentinel_0 N]) (.cons (by kernel_rfl) (g_lodgesee_sentinel_0_ok S N N) (.nil)) (by kernel_rfl) (ps := ps_lodgesee_sentinel) (rs := rs_lodgesee_sentinel) (Eq.trans (b := F_lodgesee_sentinel N x.1) (by kernel_rfl) h)

/-! lodge/lodgesee.Fault -/

abbrev ps_lodgesee_Fault : List Ty := [.err]
abbrev rs_lodgesee_Fault : List Slot := [.data (.st (.pair (.int .i64) (.pair .bool (.int .i64))))]
abbrev cs_lodgesee_Fault (N : Nat) : List CallSpec := [c_lodgeref_Bare N, c_lodgeref_None N, c_lodgeref_Placed N, c_lodgesee_sentinel N]
noncomputable abbrev b_lodgesee_Fault : Code := (Go.Proofs.Tryd.f50.body).getD .skip

def F_lodgesee_Fault (N : Nat) (e_0 : Er) : Option ((Int × (Bool × Int)) × Unit) :=
  cond (Go.Eng.Er.isNil e_0)
    (
    Option.bind (F_lodgeref_None N) fun y0 =>
    some y0)
    (
    cond (Go.Eng.Er.isAt e_0)
      (
      Option.bind (F_lodgesee_sentinel N (Go.Eng.Er.s (Go.Eng.Er.gix e_0))) fun y1 =>
      Option.bind (F_lodgeref_Placed N (y1).1 (Go.Eng.Er.pos e_0)) fun y2 =>
      some y2)
      (
      Option.bind (F_lodgesee_sentinel N e_0) fun y3 =>
      Option.bind (F_lodgeref_Bare N (y3).1) fun y4 =>
      some y4))

abbrev c_lodgesee_Fault (N : Nat) : CallSpec := ⟨50, ps_lodgesee_Fault, rs_lodgesee_Fault, fun x => F_lodgesee_Fault N x.1⟩

theorem cs_lodgesee_Fault_ok (S : Nat → Addr) (N : Nat) : CallsOK Go.Proofs.Tryd.prog E S (cs_lodgesee_Fault N) :=
  .cons (F_lodgeref_Bare_ok S N) (.cons (F_lodgeref_None_ok S N) (.cons (F_lodgeref_Placed_ok S N) (.cons (F_lodgesee_sentinel_ok S N) (.nil))))
theorem F_lodgesee_Fault_ok (S : Nat → Addr) (N : Nat) : ∀ x y, (c_lodgesee_Fault N).g x = some y → FCon Go.Proofs.Tryd.prog E S 50 ps_lodgesee_Fault rs_lodgesee_Fault x y := by
  intro x y h
  exact fun_spec E_ok mixed (cs_lodgesee_Fault_ok S N) (f := 50) (fi := ⟨b_lodgesee_Fault, 38, Go.Proofs.Tryd.f50.results.toList⟩) (by kernel_rfl) (ls := []) (.nil) (by kernel_rfl) (ps := ps_lodgesee_Fault) (rs := rs_lodgesee_Fault) (Eq.trans (b := F_lodgesee_Fault N x.1) (by kernel_rfl) h)

/-! lodge/lodgeref.SameFault -/

abbrev ps_lodgeref_SameFault : List Ty := [(.st (.pair (.int .i64) (.pair .bool (.int .i64)))), (.st (.pair (.int .i64) (.pair .bool (.int .i64))))]
abbrev rs_lodgeref_SameFault : List Slot := [.data .bool]
abbrev cs_lodgeref_SameFault (N : Nat) : List CallSpec := []
noncomputable abbrev b_lodgeref_SameFault : Code := (Go.Proofs.Tryd.f49.body).getD .skip

def F_lodgeref_SameFault (N : Nat) (a_0 : (Int × (Bool × Int))) (b_1 : (Int × (Bool × Int))) : Option (Bool × Unit) :=
  cond (decide ((a_0).1 = (b_1).1))
    (
    cond (((a_0).2).1 == ((b_1).2).1)
      (
      some ((decide (((a_0).2).2 = ((b_1).2).2)), ()))
      (
      some (false, ())))
    (
    some (false, ()))

abbrev c_lodgeref_SameFault (N : Nat) : CallSpec := ⟨49, ps_lodgeref_SameFault, rs_lodgeref_SameFault, fun x => F_lodgeref_SameFault N x.1 x.2.1⟩

theorem cs_lodgeref_SameFault_ok (S : Nat → Addr) (N : Nat) : CallsOK Go.Proofs.Tryd.prog E S (cs_lodgeref_SameFault N) :=
  .nil
theorem F_lodgeref_SameFault_ok (S : Nat → Addr) (N : Nat) : ∀ x y, (c_lodgeref_SameFault N).g x = some y → FCon Go.Proofs.Tryd.prog E S 49 ps_lodgeref_SameFault rs_lodgeref_SameFault x y := by
  intro x y h
  exact fun_spec E_ok mixed (cs_lodgeref_SameFault_ok S N) (f := 49) (fi := ⟨b_lodgeref_SameFault, 24, Go.Proofs.Tryd.f49.results.toList⟩) (by kernel_rfl) (ls := []) (.nil) (by kernel_rfl) (ps := ps_lodgeref_SameFault) (rs := rs_lodgeref_SameFault) (Eq.trans (b := F_lodgeref_SameFault N x.1 x.2.1) (by kernel_rfl) h)

/-! lodge/lodgesee.Same -/

abbrev ps_lodgesee_Same : List Ty := [.err, (.st (.pair (.int .i64) (.pair .bool (.int .i64))))]
abbrev rs_lodgesee_Same : List Slot := [.data .bool]
abbrev cs_lodgesee_Same (N : Nat) : List CallSpec := [c_lodgesee_Fault N, c_lodgeref_SameFault N]
noncomputable abbrev b_lodgesee_Same : Code := (Go.Proofs.Tryd.f23.body).getD .skip

def F_lodgesee_Same (N : Nat) (e_0 : Er) (f_1 : (Int × (Bool × Int))) : Option (Bool × Unit) :=
  Option.bind (F_lodgesee_Fault N e_0) fun y0 =>
  Option.bind (F_lodgeref_SameFault N (y0).1 f_1) fun y1 =>
  some y1

abbrev c_lodgesee_Same (N : Nat) : CallSpec := ⟨23, ps_lodgesee_Same, rs_lodgesee_Same, fun x => F_lodgesee_Same N x.1 x.2.1⟩

theorem cs_lodgesee_Same_ok (S : Nat → Addr) (N : Nat) : CallsOK Go.Proofs.Tryd.prog E S (cs_lodgesee_Same N) :=
  .cons (F_lodgesee_Fault_ok S N) (.cons (F_lodgeref_SameFault_ok S N) (.nil))
theorem F_lodgesee_Same_ok (S : Nat → Addr) (N : Nat) : ∀ x y, (c_lodgesee_Same N).g x = some y → FCon Go.Proofs.Tryd.prog E S 23 ps_lodgesee_Same rs_lodgesee_Same x y := by
  intro x y h
  exact fun_spec E_ok mixed (cs_lodgesee_Same_ok S N) (f := 23) (fi := ⟨b_lodgesee_Same, 9, Go.Proofs.Tryd.f23.results.toList⟩) (by kernel_rfl) (ls := []) (.nil) (by kernel_rfl) (ps := ps_lodgesee_Same) (rs := rs_lodgesee_Same) (Eq.trans (b := F_lodgesee_Same N x.1 x.2.1) (by kernel_rfl) h)

/-! lodge/lodgeref.SameTensor -/

abbrev ps_lodgeref_SameTensor : List Ty := [(.st (.pair (.st (.pair (.sl (.int .i64)) .bool)) (.sl (.int .i64)))), (.st (.pair (.st (.pair (.sl (.int .i64)) .bool)) (.sl (.int .i64))))]
abbrev rs_lodgeref_SameTensor : List Slot := [.data .bool]
abbrev cs_lodgeref_SameTensor (N : Nat) : List CallSpec := [c_lodgeref_SameInts N, c_lodgeref_SameDesc N]
noncomputable abbrev b_lodgeref_SameTensor : Code := (Go.Proofs.Tryd.f13.body).getD .skip

def F_lodgeref_SameTensor (N : Nat) (a_0 : ((List Int × Bool) × List Int)) (b_1 : ((List Int × Bool) × List Int)) : Option (Bool × Unit) :=
  Option.bind (F_lodgeref_SameDesc N (a_0).1 (b_1).1) fun y0 =>
  Option.bind (F_lodgeref_SameInts N (a_0).2 (b_1).2) fun y1 =>
  cond (y0).1
    (
    some y1)
    (
    some (false, ()))

abbrev c_lodgeref_SameTensor (N : Nat) : CallSpec := ⟨13, ps_lodgeref_SameTensor, rs_lodgeref_SameTensor, fun x => F_lodgeref_SameTensor N x.1 x.2.1⟩

theorem cs_lodgeref_SameTensor_ok (S : Nat → Addr) (N : Nat) : CallsOK Go.Proofs.Tryd.prog E S (cs_lodgeref_SameTensor N) :=
  .cons (F_lodgeref_SameInts_ok S N) (.cons (F_lodgeref_SameDesc_ok S N) (.nil))
theorem F_lodgeref_SameTensor_ok (S : Nat → Addr) (N : Nat) : ∀ x y, (c_lodgeref_SameTensor N).g x = some y → FCon Go.Proofs.Tryd.prog E S 13 ps_lodgeref_SameTensor rs_lodgeref_SameTensor x y := by
  intro x y h
  exact fun_spec E_ok mixed (cs_lodgeref_SameTensor_ok S N) (f := 13) (fi := ⟨b_lodgeref_SameTensor, 21, Go.Proofs.Tryd.f13.results.toList⟩) (by kernel_rfl) (ls := []) (.nil) (by kernel_rfl) (ps := ps_lodgeref_SameTensor) (rs := rs_lodgeref_SameTensor) (Eq.trans (b := F_lodgeref_SameTensor N x.1 x.2.1) (by kernel_rfl) h)

/-! lodge/lodgesee.Is -/

abbrev ps_lodgesee_Is : List Ty := [.err, (.int .i64)]
abbrev rs_lodgesee_Is : List Slot := [.data .bool]
abbrev cs_lodgesee_Is (N : Nat) : List CallSpec := [c_lodgeref_Bare N, c_lodgesee_Same N]
noncomputable abbrev b_lodgesee_Is : Code := (Go.Proofs.Tryd.f12.body).getD .skip

def F_lodgesee_Is (N : Nat) (e_0 : Er) (code_1 : Int) : Option (Bool × Unit) :=
  Option.bind (F_lodgeref_Bare N code_1) fun y0 =>
  Option.bind (F_lodgesee_Same N e_0 (y0).1) fun y1 =>
  some y1

abbrev c_lodgesee_Is (N : Nat) : CallSpec := ⟨12, ps_lodgesee_Is, rs_lodgesee_Is, fun x => F_lodgesee_Is N x.1 x.2.1⟩

theorem cs_lodgesee_Is_ok (S : Nat → Addr) (N : Nat) : CallsOK Go.Proofs.Tryd.prog E S (cs_lodgesee_Is N) :=
  .cons (F_lodgeref_Bare_ok S N) (.cons (F_lodgesee_Same_ok S N) (.nil))
theorem F_lodgesee_Is_ok (S : Nat → Addr) (N : Nat) : ∀ x y, (c_lodgesee_Is N).g x = some y → FCon Go.Proofs.Tryd.prog E S 12 ps_lodgesee_Is rs_lodgesee_Is x y := by
  intro x y h
  exact fun_spec E_ok mixed (cs_lodgesee_Is_ok S N) (f := 12) (fi := ⟨b_lodgesee_Is, 9, Go.Proofs.Tryd.f12.results.toList⟩) (by kernel_rfl) (ls := []) (.nil) (by kernel_rfl) (ps := ps_lodgesee_Is) (rs := rs_lodgesee_Is) (Eq.trans (b := F_lodgesee_Is N x.1 x.2.1) (by kernel_rfl) h)

/-! lodge/soft.Cell -/

abbrev ps_soft_Cell : List Ty := [(.int .i64), (.int .i64), (.sl (.st (.pair (.st (.pair (.sl (.int .i64)) .bool)) (.sl (.int .i64)))))]
abbrev rs_soft_Cell : List Slot := [.data (.int .i64)]
abbrev cs_soft_Cell (N : Nat) : List CallSpec := [c_shape_Elems N, c_soft_result N, c_soft_reads N, c_soft_At N]
noncomputable abbrev b_soft_Cell : Code := (Go.Proofs.Tryd.f19.body).getD .skip

def F_soft_Cell (N : Nat) (op_0 : Int) (i_1 : Int) (ins_2 : List (((List Int × Bool) × List Int))) : Option (Int × Unit) :=
  Option.bind (F_soft_result N op_0 ins_2) fun y0 =>
  cond (Bool.not (Go.Eng.Er.isNil (((y0).2).2).1))
    (
    some ((0 : Int), ()))
    (
    cond (decide (i_1 < (0 : Int)))
      (
      some ((0 : Int), ()))
      (
      Option.bind (F_shape_Elems N ((y0).1).1) fun y1 =>
      cond (decide ((y1).1 ≤ i_1))
        (
        some ((0 : Int), ()))
        (
        Option.bind (F_soft_reads N ins_2) fun y2 =>
        cond (decide (((0 : Nat) + (List.length (y2).1)) ≤ (List.length (y2).1)))
          (
          Option.bind (F_soft_At N op_0 i_1 ((y0).2).1 (List.take (List.length (y2).1) (y2).1)) fun y3 =>
          some y3)
          (
          none))))

abbrev c_soft_Cell (N : Nat) : CallSpec := ⟨19, ps_soft_Cell, rs_soft_Cell, fun x => F_soft_Cell N x.1 x.2.1 x.2.2.1⟩

theorem cs_soft_Cell_ok (S : Nat → Addr) (N : Nat) : CallsOK Go.Proofs.Tryd.prog E S (cs_soft_Cell N) :=
  .cons (F_shape_Elems_ok S N) (.cons (F_soft_result_ok S N) (.cons (F_soft_reads_ok S N) (.cons (F_soft_At_ok S N) (.nil))))
theorem F_soft_Cell_ok (S : Nat → Addr) (N : Nat) : ∀ x y, (c_soft_Cell N).g x = some y → FCon Go.Proofs.Tryd.prog E S 19 ps_soft_Cell rs_soft_Cell x y := by
  intro x y h
  exact fun_spec E_ok mixed (cs_soft_Cell_ok S N) (f := 19) (fi := ⟨b_soft_Cell, 36, Go.Proofs.Tryd.f19.results.toList⟩) (by kernel_rfl) (ls := []) (.nil) (by kernel_rfl) (ps := ps_soft_Cell) (rs := rs_soft_Cell) (Eq.trans (b := F_soft_Cell N x.1 x.2.1 x.2.2.1) (by kernel_rfl) h)

/-! lodge/lodgeref3.Good -/

abbrev ps_lodgeref3_Good : List Ty := [(.st (.pair (.st (.pair (.sl (.int .i64)) .bool)) (.sl (.int .i64))))]
abbrev rs_lodgeref3_Good : List Slot := [.data .bool]
abbrev cs_lodgeref3_Good (N : Nat) : List CallSpec := [c_lodgeref3_Valid N]
noncomputable abbrev b_lodgeref3_Good : Code := (Go.Proofs.Tryd.f55.body).getD .skip

def F_lodgeref3_Good (N : Nat) (t_0 : ((List Int × Bool) × List Int)) : Option (Bool × Unit) :=
  Option.bind (F_lodgeref3_Valid N t_0) fun y0 =>
  some ((decide (((y0).1).1 = (0 : Int))), ())

abbrev c_lodgeref3_Good (N : Nat) : CallSpec := ⟨55, ps_lodgeref3_Good, rs_lodgeref3_Good, fun x => F_lodgeref3_Good N x.1⟩

theorem cs_lodgeref3_Good_ok (S : Nat → Addr) (N : Nat) : CallsOK Go.Proofs.Tryd.prog E S (cs_lodgeref3_Good N) :=
  .cons (F_lodgeref3_Valid_ok S N) (.nil)
theorem F_lodgeref3_Good_ok (S : Nat → Addr) (N : Nat) : ∀ x y, (c_lodgeref3_Good N).g x = some y → FCon Go.Proofs.Tryd.prog E S 55 ps_lodgeref3_Good rs_lodgeref3_Good x y := by
  intro x y h
  exact fun_spec E_ok mixed (cs_lodgeref3_Good_ok S N) (f := 55) (fi := ⟨b_lodgeref3_Good, 7, Go.Proofs.Tryd.f55.results.toList⟩) (by kernel_rfl) (ls := []) (.nil) (by kernel_rfl) (ps := ps_lodgeref3_Good) (rs := rs_lodgeref3_Good) (Eq.trans (b := F_lodgeref3_Good N x.1) (by kernel_rfl) h)

/-! lodge/lodgeref3.Element -/

abbrev ps_lodgeref3_Element : List Ty := [(.int .i64), (.sl (.int .i64)), (.int .i64), (.sl (.st (.pair (.st (.pair (.sl (.int .i64)) .bool)) (.sl (.int .i64)))))]
abbrev rs_lodgeref3_Element : List Slot := [.data (.int .i64)]
abbrev cs_lodgeref3_Element (N : Nat) : List CallSpec := [c_lodgeref3_Elems N, c_lodgeref3_descsOf N, c_lodgeref3_Result N, c_lodgeref3_element N, c_lodgeref3_Good N]
noncomputable abbrev b_lodgeref3_Element : Code := (Go.Proofs.Tryd.f27.body).getD .skip

abbrev h_lodgeref3_Element_0 : List Slot := [.data (.int .i64), .data (.sl (.int .i64)), .data (.int .i64), .data (.sl (.st (.pair (.st (.pair (.sl (.int .i64)) .bool)) (.sl (.int .i64))))), .dead, .dead, .dead, .dead, .dead, .data (.int .i64), .dead, .dead, .dead, .dead, .dead, .dead, .dead, .dead, .dead, .dead, .dead, .dead, .dead, .dead, .dead, .dead, .dead, .dead, .dead, .dead, .dead, .dead, .dead, .dead, .dead, .dead, .dead, .dead, .dead, .dead, .dead, .dead, .dead, .dead, .dead, .dead, .dead, .dead, .dead, .dead, .dead]
abbrev e_lodgeref3_Element_0 : List (AX × List Slot) := [(AX.exit 0, [.data (.int .i64), .data (.sl (.int .i64)), .data (.int .i64), .data (.sl (.st (.pair (.st (.pair (.sl (.int .i64)) .bool)) (.sl (.int .i64))))), .dead, .dead, .dead, .dead, .dead, .dead, .dead, .dead, .dead, .dead, .dead, .dead, .dead, .dead, .dead, .dead, .dead, .dead, .dead, .dead, .dead, .dead, .dead, .dead, .dead, .dead, .dead, .dead, .dead, .dead, .dead, .dead, .dead, .dead, .dead, .dead, .dead, .dead, .dead, .dead, .dead, .dead, .dead, .dead, .dead, .dead, .dead]), (AX.ret, [.dead, .dead, .dead, .dead, .dead, .dead, .dead, .dead, .data (.int .i64), .dead, .dead, .dead, .dead, .dead, .dead, .dead, .dead, .dead, .dead, .dead, .dead, .dead, .dead, .dead, .dead, .dead, .dead, .dead, .dead, .dead, .dead, .dead, .dead, .dead, .dead, .dead, .dead, .dead, .dead, .dead, .dead, .dead, .dead, .dead, .dead, .dead, .dead, .dead, .dead, .dead, .dead])]
def g_lodgeref3_Element_0 (N : Nat) : Nat → Int → List Int → Int → List (((List Int × Bool) × List Int)) → Int → Option (Sum (Int × (List Int × (Int × (List (((List Int × Bool) × List Int)) × Unit)))) (Int × Unit))
  | 0, _, _, _, _, _ => none
  | n + 1, op_0, args_1, i_2, ins_3, k_9 =>
    cond (decide (k_9 < (Nat.cast (List.length ins_3) : Int)))
      (
      cond (decide ((0 : Int) ≤ k_9))
        (
        cond (decide ((Int.toNat k_9) < (List.length ins_3)))
          (
          Option.bind (F_lodgeref3_Good N (List.getD ins_3 (Int.toNat k_9) ((([] : List Int), false), ([] : List Int)))) fun y1 =>
          cond (Bool.not (y1).1)
            (
            some (Sum.inr ((0 : Int), ())))
            (
            (g_lodgeref3_Element_0 N n op_0 args_1 i_2 ins_3 (wi64 (k_9 + (1 : Int))))))
          (
          none))
        (
        none))
      (
      some (Sum.inl (op_0, (args_1, (i_2, (ins_3, ()))))))

def F_lodgeref3_Element (N : Nat) (op_0 : Int) (args_1 : List Int) (i_2 : Int) (ins_3 : List (((List Int × Bool) × List Int))) : Option (Int × Unit) :=
  Option.bind (g_lodgeref3_Element_0 N N op_0 args_1 i_2 ins_3 (0 : Int)) fun y0 =>
  Sum.elim (fun y1 =>
    Option.bind (F_lodgeref3_descsOf N ((((y1).2).2).2).1) fun y2 =>
    cond (decide (((0 : Nat) + (List.length (y2).1)) ≤ (List.length (y2).1)))
      (
      Option.bind (F_lodgeref3_Result N (y1).1 ((y1).2).1 (List.take (List.length (y2).1) (y2).1)) fun y3 =>
      cond (decide (@Ne Int ((y3).2).1 (0 : Int)))
        (
        some ((0 : Int), ()))
        (
        cond (decide ((((y1).2).2).1 < (0 : Int)))
          (
          some ((0 : Int), ()))
          (
          cond (decide (((0 : Nat) + (List.length ((y3).1).1)) ≤ (List.length ((y3).1).1)))
            (
            Option.bind (F_lodgeref3_Elems N (List.take (List.length ((y3).1).1) ((y3).1).1)) fun y4 =>
            cond (decide ((y4).1 ≤ (((y1).2).2).1))
              (
              some ((0 : Int), ()))
              (
              cond (decide (((0 : Nat) + (List.length ((y3).1).1)) ≤ (List.length ((y3).1).1)))
                (
                Option.bind (F_lodgeref3_element N (y1).1 ((y1).2).1 (((y1).2).2).1 ((((y1).2).2).2).1 ((List.take (List.length ((y3).1).1) ((y3).1).1), (((y3).1).2).1)) fun y5 =>
                some y5)
                (
                none)))
            (
            none))))
      (
      none))
    (fun y6 =>
    some y6) y0

abbrev c_lodgeref3_Element (N : Nat) : CallSpec := ⟨27, ps_lodgeref3_Element, rs_lodgeref3_Element, fun x => F_lodgeref3_Element N x.1 x.2.1 x.2.2.1 x.2.2.2.1⟩
abbrev l_lodgeref3_Element_0 (N : Nat) : LoopSpec := ⟨0, h_lodgeref3_Element_0, e_lodgeref3_Element_0, fun x => g_lodgeref3_Element_0 N N x.1 x.2.1 x.2.2.1 x.2.2.2.1 x.2.2.2.2.1⟩

theorem cs_lodgeref3_Element_ok (S : Nat → Addr) (N : Nat) : CallsOK Go.Proofs.Tryd.prog E S (cs_lodgeref3_Element N) :=
  .cons (F_lodgeref3_Elems_ok S N) (.cons (F_lodgeref3_descsOf_ok S N) (.cons (F_lodgeref3_Result_ok S N) (.cons (F_lodgeref3_element_ok S N) (.cons (F_lodgeref3_Good_ok S N) (.nil)))))
noncomputable abbrev b_lodgeref3_Element_0 : Code := (loopsOf b_lodgeref3_Element).getD 0 .skip
theorem g_lodgeref3_Element_0_ok (S : Nat → Addr) (N : Nat) : ∀ n x y, (fun (x : Val (slotsTy h_lodgeref3_Element_0)) => g_lodgeref3_Element_0 N n x.1 x.2.1 x.2.2.1 x.2.2.2.1 x.2.2.2.2.1) x = some y → LoopCon Go.Proofs.Tryd.prog E S b_lodgeref3_Element_0 (encSlots h_lodgeref3_Element_0 x) (encEx e_lodgeref3_Element_0 y).1 (encEx e_lodgeref3_Element_0 y).2 :=
  loop_spec E_ok mixed (cs_lodgeref3_Element_ok S N) (all := loopsOf b_lodgeref3_Element) (ls := []) (.nil) (i := 0) (by kernel_rfl) (inner_of (by kernel_rfl)) (head := h_lodgeref3_Element_0) (ex := e_lodgeref3_Element_0) (fun n (x : Val (slotsTy h_lodgeref3_Element_0)) => g_lodgeref3_Element_0 N n x.1 x.2.1 x.2.2.1 x.2.2.2.1 x.2.2.2.2.1) (fun _ => rfl) (fun n x => by kernel_rfl)
theorem F_lodgeref3_Element_ok (S : Nat → Addr) (N : Nat) : ∀ x y, (c_lodgeref3_Element N).g x = some y → FCon Go.Proofs.Tryd.prog E S 27 ps_lodgeref3_Element rs_lodgeref3_Element x y := by
  intro x y h
  exact fun_spec E_ok mixed (cs_lodgeref3_Element_ok S N) (f := 27) (fi := ⟨b_lodgeref3_Element, 51, Go.Proofs.Tryd.f27.results.toList⟩) (by kernel_rfl) (ls := [l_lodgeref3_Element_0 N]) (.cons (by kernel_rfl) (g_lodgeref3_Element_0_ok S N N) (.nil)) (by kernel_rfl) (ps := ps_lodgeref3_Element) (rs := rs_lodgeref3_Element) (Eq.trans (b := F_lodgeref3_Element N x.1 x.2.1 x.2.2.1 x.2.2.2.1) (by kernel_rfl) h)


end Go.Proofs.YtohkmbpdjigjdaaDoor.Lg
