/-
  The functions of the seat's program, as plain functions.
-/
import Derived.Test.YtohkmbpdjigjdaaDoorLgSoftBFe
namespace Go.Proofs.YtohkmbpdjigjdaaDoor.Lg
open Go Go.Eng Go.Proofs
set_option maxRecDepth 100000

/-! lodge/lodgelaw11.SoftSays -/

abbrev ps_lodgelaw11_SoftSays : List Ty := [(.st (.pair (.st (.pair (.sl (.int .i64)) .bool)) (.sl (.int .i64)))), (.st (.pair (.st (.pair (.sl (.int .i64)) .bool)) (.sl (.int .i64)))), (.int .i64), (.int .i64)]
abbrev rs_lodgelaw11_SoftSays : List Slot := [.data .bool]
abbrev cs_lodgelaw11_SoftSays (N : Nat) : List CallSpec := [c_soft_Result N, c_soft_Softmax N, c_lodgelaw11_first N, c_lodgeworld_Tensor N, c_soft_Gather N, c_soft_ArgMax N, c_soft_Sum N, c_lodgeref_SameDesc N, c_lodgeref3_SoftResult N, c_lodgeref3_Apply N, c_lodgesee_Same N, c_lodgeref_SameTensor N, c_lodgesee_Is N, c_soft_Cell N, c_lodgeref3_Element N]
noncomputable abbrev b_lodgelaw11_SoftSays : Code := (Go.Proofs.Tryd.f7.body).getD .skip

abbrev j_lodgelaw11_SoftSays : Joins := [(31, [(AX.normal, [.dead, .dead, .data (.int .i64), .data (.int .i64), .box [.d (.st (.pair (.st (.pair (.sl (.int .i64)) .bool)) (.sl (.int .i64))))], .box [.d (.st (.pair (.st (.pair (.sl (.int .i64)) .bool)) (.sl (.int .i64))))], .dead, .dead, .dead, .dead, .sl (.st (.pair (.st (.pair (.sl (.int .i64)) .bool)) (.sl (.int .i64)))), .dead, .dead, .dead, .dead, .dead, .dead, .dead, .dead, .dead, .dead, .dead, .dead, .dead, .dead, .dead, .dead, .dead, .dead, .dead, .dead, .dead, .dead, .dead, .dead, .dead, .dead, .dead, .dead, .dead, .dead, .dead, .dead, .dead, .dead, .dead, .dead, .dead, .dead, .dead, .dead, .dead, .dead, .dead, .dead, .dead, .dead, .dead, .dead, .dead, .dead, .dead, .dead, .dead, .dead, .dead, .dead, .dead, .dead, .dead, .dead, .dead, .dead, .dead, .dead, .dead, .dead, .dead, .dead, .dead, .dead, .dead, .dead, .dead, .dead, .dead, .dead, .dead, .dead, .dead, .dead, .dead, .dead, .dead, .dead, .dead, .dead, .dead, .dead, .dead, .dead, .dead, .dead, .dead, .dead, .dead, .dead, .dead, .dead, .dead, .dead, .dead, .dead, .dead, .dead, .dead, .dead, .dead, .dead, .dead, .dead, .dead, .dead, .dead, .dead, .dead, .dead, .dead, .dead, .dead, .dead, .dead, .dead, .dead, .dead, .dead, .dead, .dead, .dead, .dead, .dead, .dead, .dead, .dead, .dead, .dead, .dead, .dead, .dead, .dead, .dead, .dead, .dead, .dead, .dead, .dead, .dead, .dead, .dead, .dead, .dead, .dead, .dead, .dead, .dead, .dead, .dead, .dead, .dead, .dead, .dead, .dead, .dead, .dead, .dead, .dead, .dead, .dead, .dead, .dead, .dead, .dead, .dead, .dead, .dead, .dead, .dead, .dead, .dead, .dead, .dead, .dead, .dead, .dead, .dead, .dead, .dead, .dead, .dead, .dead, .dead, .dead, .dead, .dead, .dead, .dead, .dead, .dead, .dead, .dead, .dead, .dead, .dead, .dead, .dead, .dead, .dead, .dead, .dead, .dead, .dead, .dead, .dead, .dead, .data .bool, .dead, .dead, .dead, .dead, .dead, .dead, .dead, .dead, .dead, .dead, .dead, .dead, .dead, .dead, .dead, .dead, .dead, .dead])]),
  (28, [(AX.normal, [.dead, .dead, .data (.int .i64), .data (.int .i64), .box [.d (.st (.pair (.st (.pair (.sl (.int .i64)) .bool)) (.sl (.int .i64))))], .box [.d (.st (.pair (.st (.pair (.sl (.int .i64)) .bool)) (.sl (.int .i64))))], .dead, .dead, .dead, .dead, .sl (.st (.pair (.st (.pair (.sl (.int .i64)) .bool)) (.sl (.int .i64)))), .dead, .dead, .dead, .dead, .dead, .dead, .dead, .dead, .dead, .dead, .dead, .dead, .dead, .dead, .dead, .dead, .dead, .dead, .dead, .dead, .dead, .dead, .dead, .dead, .dead, .dead, .dead, .dead, .dead, .dead, .dead, .dead, .dead, .dead, .dead, .dead, .dead, .dead, .dead, .dead, .dead, .dead, .dead, .dead, .dead, .dead, .dead, .dead, .dead, .dead, .dead, .dead, .dead, .dead, .dead, .dead, .dead, .dead, .dead, .dead, .dead, .dead, .dead, .dead, .dead, .dead, .dead, .dead, .dead, .dead, .dead, .dead, .dead, .dead, .dead, .dead, .dead, .dead, .dead, .dead, .dead, .dead, .dead, .dead, .dead, .dead, .dead, .dead, .dead, .dead, .dead, .dead, .dead, .dead, .dead, .dead, .dead, .dead, .dead, .dead, .dead, .dead, .dead, .dead, .dead, .dead, .dead, .dead, .dead, .dead, .dead, .dead, .dead, .dead, .dead, .dead, .dead, .dead, .dead, .dead, .dead, .dead, .dead, .dead, .dead, .dead, .dead, .dead, .dead, .dead, .dead, .dead, .dead, .dead, .dead, .dead, .dead, .dead, .dead, .dead, .dead, .dead, .dead, .dead, .dead, .dead, .dead, .dead, .dead, .dead, .dead, .dead, .dead, .dead, .dead, .dead, .dead, .dead, .dead, .dead, .dead, .dead, .dead, .dead, .dead, .dead, .dead, .dead, .dead, .dead, .dead, .dead, .dead, .dead, .dead, .dead, .dead, .dead, .dead, .dead, .dead, .dead, .dead, .dead, .dead, .dead, .dead, .dead, .dead, .dead, .dead, .dead, .dead, .dead, .dead, .dead, .data .bool, .dead, .dead, .dead, .dead, .dead, .dead, .dead, .dead, .dead, .dead, .dead, .dead, .dead, .dead, .dead, .dead, .dead, .dead, .dead, .dead, .dead, .dead, .dead, .dead, .dead, .dead, .dead, .dead, .dead, .dead, .dead, .dead, .dead, .dead, .dead])]),
  (25, [(AX.normal, [.dead, .dead, .data (.int .i64), .data (.int .i64), .box [.d (.st (.pair (.st (.pair (.sl (.int .i64)) .bool)) (.sl (.int .i64))))], .box [.d (.st (.pair (.st (.pair (.sl (.int .i64)) .bool)) (.sl (.int .i64))))], .dead, .dead, .dead, .dead, .sl (.st (.pair (.st (.pair (.sl (.int .i64)) .bool)) (.sl (.int .i64)))), .dead, .dead, .dead, .dead, .dead, .dead, .dead, .dead, .dead, .dead, .dead, .dead, .dead, .dead, .dead, .dead, .dead, .dead, .dead, .dead, .dead, .dead, .dead, .dead, .dead, .dead, .dead, .dead, .dead, .dead, .dead, .dead, .dead, .dead, .dead, .dead, .dead, .dead, .dead, .dead, .dead, .dead, .dead, .dead, .dead, .dead, .dead, .dead, .dead, .dead, .dead, .dead, .dead, .dead, .dead, .dead, .dead, .dead, .dead, .dead, .dead, .dead, .dead, .dead, .dead, .dead, .dead, .dead, .dead, .dead, .dead, .dead, .dead, .dead, .dead, .dead, .dead, .dead, .dead, .dead, .dead, .dead, .dead, .dead, .dead, .dead, .dead, .dead, .dead, .dead, .dead, .dead, .dead, .dead, .dead, .dead, .dead, .dead, .dead, .dead, .dead, .dead, .dead, .dead, .dead, .dead, .dead, .dead, .dead, .dead, .dead, .dead, .dead, .dead, .dead, .dead, .dead, .dead, .dead, .dead, .dead, .dead, .dead, .dead, .dead, .dead, .dead, .dead, .dead, .dead, .dead, .dead, .dead, .dead, .dead, .dead, .dead, .dead, .dead, .dead, .dead, .dead, .dead, .dead, .dead, .dead, .dead, .dead, .dead, .dead, .dead, .dead, .dead, .dead, .dead, .dead, .dead, .dead, .dead, .dead, .dead, .dead, .dead, .dead, .dead, .dead, .dead, .dead, .dead, .dead, .dead, .dead, .dead, .dead, .dead, .dead, .dead, .dead, .dead, .dead, .dead, .dead, .dead, .dead, .dead, .dead, .dead, .dead, .dead, .dead, .data .bool, .dead, .dead, .dead, .dead, .dead, .dead, .dead, .dead, .dead, .dead, .dead, .dead, .dead, .dead, .dead, .dead, .dead, .dead, .dead, .dead, .dead, .dead, .dead, .dead, .dead, .dead, .dead, .dead, .dead, .dead, .dead, .dead, .dead, .dead, .dead, .dead, .dead, .dead, .dead, .dead, .dead])]),
  (18, [(AX.normal, [.dead, .dead, .data (.int .i64), .data (.int .i64), .box [.d (.st (.pair (.st (.pair (.sl (.int .i64)) .bool)) (.sl (.int .i64))))], .box [.d (.st (.pair (.st (.pair (.sl (.int .i64)) .bool)) (.sl (.int .i64))))], .dead, .dead, .dead, .dead, .sl (.st (.pair (.st (.pair (.sl (.int .i64)) .bool)) (.sl (.int .i64)))), .dead, .dead, .dead, .dead, .dead, .dead, .dead, .dead, .dead, .dead, .dead, .dead, .dead, .dead, .dead, .dead, .dead, .dead, .dead, .dead, .dead, .dead, .dead, .dead, .dead, .dead, .dead, .dead, .dead, .dead, .dead, .dead, .dead, .dead, .dead, .dead, .dead, .dead, .dead, .dead, .dead, .dead, .dead, .dead, .dead, .dead, .dead, .dead, .dead, .dead, .dead, .dead, .dead, .dead, .dead, .dead, .dead, .dead, .dead, .dead, .dead, .dead, .dead, .dead, .dead, .dead, .dead, .dead, .dead, .dead, .dead, .dead, .dead, .dead, .dead, .dead, .dead, .dead, .dead, .dead, .dead, .dead, .dead, .dead, .dead, .dead, .dead, .dead, .dead, .dead, .dead, .dead, .dead, .dead, .dead, .dead, .dead, .dead, .dead, .dead, .dead, .dead, .dead, .dead, .dead, .dead, .dead, .dead, .dead, .dead, .dead, .dead, .dead, .dead, .dead, .dead, .dead, .dead, .dead, .dead, .dead, .dead, .dead, .dead, .dead, .dead, .dead, .dead, .dead, .dead, .dead, .dead, .data .bool, .dead, .dead, .dead, .dead, .dead, .dead, .dead, .dead, .dead, .dead, .dead, .dead, .dead, .dead, .dead, .dead, .dead, .dead, .dead, .dead, .dead, .dead, .dead, .dead, .dead, .dead, .dead, .dead, .dead, .dead, .dead, .dead, .dead, .dead, .dead, .dead, .dead, .dead, .dead, .dead, .dead, .dead, .dead, .dead, .dead, .dead, .dead, .dead, .dead, .dead, .dead, .dead, .dead, .dead, .dead, .dead, .dead, .dead, .dead, .dead, .dead, .dead, .dead, .dead, .dead, .dead, .dead, .dead, .dead, .dead, .dead, .dead, .dead, .dead, .dead, .dead, .dead, .dead, .dead, .dead, .dead, .dead, .dead, .dead, .dead, .dead, .dead, .dead, .dead, .dead, .dead, .dead, .dead, .dead, .dead, .dead, .dead, .dead, .dead])]),
  (6, [(AX.normal, [.dead, .dead, .data (.int .i64), .data (.int .i64), .box [.d (.st (.pair (.st (.pair (.sl (.int .i64)) .bool)) (.sl (.int .i64))))], .box [.d (.st (.pair (.st (.pair (.sl (.int .i64)) .bool)) (.sl (.int .i64))))], .dead, .dead, .dead, .data .bool, .dead, .dead, .dead, .dead, .dead, .dead, .dead, .dead, .dead, .dead, .dead, .dead, .dead, .dead, .dead, .dead, .dead, .dead, .dead, .dead, .dead, .dead, .dead, .dead, .dead, .dead, .dead, .dead, .dead, .dead, .dead, .dead, .dead, .dead, .dead, .dead, .dead, .dead, .dead, .data .bool, .dead, .dead, .dead, .dead, .dead, .dead, .dead, .dead, .dead, .dead, .dead, .dead, .dead, .dead, .dead, .dead, .dead, .dead, .dead, .dead, .dead, .dead, .dead, .dead, .dead, .dead, .dead, .dead, .dead, .dead, .dead, .dead, .dead, .dead, .dead, .dead, .dead, .dead, .dead, .dead, .dead, .dead, .dead, .dead, .dead, .dead, .dead, .dead, .dead, .dead, .dead, .dead, .dead, .dead, .dead, .dead, .dead, .dead, .dead, .dead, .dead, .dead, .dead, .dead, .dead, .dead, .dead, .dead, .dead, .dead, .dead, .dead, .dead, .dead, .dead, .dead, .dead, .dead, .dead, .dead, .dead, .dead, .dead, .dead, .dead, .dead, .dead, .dead, .dead, .dead, .dead, .dead, .dead, .dead, .dead, .dead, .dead, .dead, .dead, .dead, .dead, .dead, .dead, .dead, .dead, .dead, .dead, .dead, .dead, .dead, .dead, .dead, .dead, .dead, .dead, .dead, .dead, .dead, .dead, .dead, .dead, .dead, .dead, .dead, .dead, .dead, .dead, .dead, .dead, .dead, .dead, .dead, .dead, .dead, .dead, .dead, .dead, .dead, .dead, .dead, .dead, .dead, .dead, .dead, .dead, .dead, .dead, .dead, .dead, .dead, .dead, .dead, .dead, .dead, .dead, .dead, .dead, .dead, .dead, .dead, .dead, .dead, .dead, .dead, .dead, .dead, .dead, .dead, .dead, .dead, .dead, .dead, .dead, .dead, .dead, .dead, .dead, .dead, .dead, .dead, .dead, .dead, .dead, .dead, .dead, .dead, .dead, .dead, .dead, .dead, .dead, .dead, .dead])])]
def F_lodgelaw11_SoftSays (N : Nat) (a_0 : ((List Int × Bool) × List Int)) (b_1 : ((List Int × Bool) × List Int)) (op_2 : Int) (i_3 : Int) : Option (Bool × Unit) :=
  Option.bind (F_lodgelaw11_first N) fun y0 =>
  cond (Bool.not (y0).1)
    (
    some (false, ()))
    (
    Option.bind (
        Option.bind (F_lodgeworld_Tensor N a_0 (300 : Int)) fun y1 =>
        cond (Bool.not (y1).1)
          (
          some (op_2, (i_3, ((a_0, ()), ((b_1, ()), ((y0).1, (true, ())))))))
          (
          Option.bind (F_lodgeworld_Tensor N b_1 (300 : Int)) fun y2 =>
          cond (Bool.not (y2).1)
            (
            some (op_2, (i_3, ((a_0, ()), ((b_1, ()), ((y0).1, (true, ())))))))
            (
            some (op_2, (i_3, ((a_0, ()), ((b_1, ()), ((y0).1, ((Bool.not (y0).1), ()))))))))) fun y3 =>
    cond ((((((y3).2).2).2).2).2).1
      (
      some ((((((y3).2).2).2).2).1, ()))
      (
      Option.bind (F_soft_Softmax N ((((y3).2).2).1).1 (((((y3).2).2).2).1).1) fun y4 =>
      Option.bind (F_soft_Gather N ((((y3).2).2).1).1 (((((y3).2).2).2).1).1) fun y5 =>
      Option.bind (F_soft_ArgMax N ((((y3).2).2).1).1) fun y6 =>
      Option.bind (F_soft_Sum N ((((y3).2).2).1).1) fun y7 =>
      Option.bind (F_lodgeref3_Apply N (16 : Int) ([] : List Int) (((((y3).2).2).1).1 :: ((((((y3).2).2).2).1).1 :: ([] : List (((List Int) × Bool) × (List Int)))))) fun y8 =>
      Option.bind (F_lodgeref3_Apply N (17 : Int) ([] : List Int) (((((y3).2).2).1).1 :: ((((((y3).2).2).2).1).1 :: ([] : List (((List Int) × Bool) × (List Int)))))) fun y9 =>
      Option.bind (F_lodgeref3_Apply N (19 : Int) ([] : List Int) (List.take (1 - (0 : Nat)) (List.drop ((0 : Nat) + (0 : Nat)) (((((y3).2).2).1).1 :: ((((((y3).2).2).2).1).1 :: ([] : List (((List Int) × Bool) × (List Int)))))))) fun y10 =>
      Option.bind (F_lodgeref3_Apply N (20 : Int) ([] : List Int) (List.take (1 - (0 : Nat)) (List.drop ((0 : Nat) + (0 : Nat)) (((((y3).2).2).1).1 :: ((((((y3).2).2).2).1).1 :: ([] : List (((List Int) × Bool) × (List Int)))))))) fun y11 =>
      Option.bind (
          Option.bind (F_lodgesee_Same N ((y4).2).1 ((y8).2).1) fun y12 =>
          cond (Bool.not (y12).1)
            (
            some ((y3).1, (((y3).2).1, ((((y3).2).2).1, (((((y3).2).2).2).1, ((((((y3).2).2).1).1 :: ((((((y3).2).2).2).1).1 :: ([] : List (((List Int) × Bool) × (List Int))))), (true, ())))))))
            (
            Option.bind (F_lodgesee_Same N ((y5).2).1 ((y9).2).1) fun y13 =>
            cond (Bool.not (y13).1)
              (
              some ((y3).1, (((y3).2).1, ((((y3).2).2).1, (((((y3).2).2).2).1, ((((((y3).2).2).1).1 :: ((((((y3).2).2).2).1).1 :: ([] : List (((List Int) × Bool) × (List Int))))), (true, ())))))))
              (
              Option.bind (F_lodgesee_Same N ((y6).2).1 ((y10).2).1) fun y14 =>
              cond (Bool.not (y14).1)
                (
                some ((y3).1, (((y3).2).1, ((((y3).2).2).1, (((((y3).2).2).2).1, ((((((y3).2).2).1).1 :: ((((((y3).2).2).2).1).1 :: ([] : List (((List Int) × Bool) × (List Int))))), (true, ())))))))
                (
                Option.bind (F_lodgesee_Same N ((y7).2).1 ((y11).2).1) fun y15 =>
                cond (Bool.not (y15).1)
                  (
                  some ((y3).1, (((y3).2).1, ((((y3).2).2).1, (((((y3).2).2).2).1, ((((((y3).2).2).1).1 :: ((((((y3).2).2).2).1).1 :: ([] : List (((List Int) × Bool) × (List Int))))), (true, ())))))))
                  (
                  cond (decide (((0 : Nat) + (List.length ((((y4).1).2).2).1)) ≤ (List.length ((((y4).1).2).2).1)))
                    (
                    cond (decide (((0 : Nat) + (List.length ((y8).1).1)) ≤ (List.length ((y8).1).1)))
                      (
                      cond (decide (((0 : Nat) + (List.length ((((y8).1).2).2).1)) ≤ (List.length ((((y8).1).2).2).1)))
                        (
                        Option.bind (F_lodgeref_SameTensor N ((((y4).1).1, (((y4).1).2).1), (List.take (List.length ((((y4).1).2).2).1) ((((y4).1).2).2).1)) (((List.take (List.length ((y8).1).1) ((y8).1).1), (((y8).1).2).1), (List.take (List.length ((((y8).1).2).2).1) ((((y8).1).2).2).1))) fun y16 =>
                        cond (Bool.not (y16).1)
                          (
                          some ((y3).1, (((y3).2).1, ((((y3).2).2).1, (((((y3).2).2).2).1, ((((((y3).2).2).1).1 :: ((((((y3).2).2).2).1).1 :: ([] : List (((List Int) × Bool) × (List Int))))), (true, ())))))))
                          (
                          cond (decide (((0 : Nat) + (List.length ((((y5).1).2).2).1)) ≤ (List.length ((((y5).1).2).2).1)))
                            (
                            cond (decide (((0 : Nat) + (List.length ((y9).1).1)) ≤ (List.length ((y9).1).1)))
                              (
                              cond (decide (((0 : Nat) + (List.length ((((y9).1).2).2).1)) ≤ (List.length ((((y9).1).2).2).1)))
                                (
                                Option.bind (F_lodgeref_SameTensor N ((((y5).1).1, (((y5).1).2).1), (List.take (List.length ((((y5).1).2).2).1) ((((y5).1).2).2).1)) (((List.take (List.length ((y9).1).1) ((y9).1).1), (((y9).1).2).1), (List.take (List.length ((((y9).1).2).2).1) ((((y9).1).2).2).1))) fun y17 =>
                                cond (Bool.not (y17).1)
                                  (
                                  some ((y3).1, (((y3).2).1, ((((y3).2).2).1, (((((y3).2).2).2).1, ((((((y3).2).2).1).1 :: ((((((y3).2).2).2).1).1 :: ([] : List (((List Int) × Bool) × (List Int))))), (true, ())))))))
                                  (
                                  cond (decide (((0 : Nat) + (List.length ((((y6).1).2).2).1)) ≤ (List.length ((((y6).1).2).2).1)))
                                    (
                                    cond (decide (((0 : Nat) + (List.length ((y10).1).1)) ≤ (List.length ((y10).1).1)))
                                      (
                                      cond (decide (((0 : Nat) + (List.length ((((y10).1).2).2).1)) ≤ (List.length ((((y10).1).2).2).1)))
                                        (
                                        Option.bind (F_lodgeref_SameTensor N ((((y6).1).1, (((y6).1).2).1), (List.take (List.length ((((y6).1).2).2).1) ((((y6).1).2).2).1)) (((List.take (List.length ((y10).1).1) ((y10).1).1), (((y10).1).2).1), (List.take (List.length ((((y10).1).2).2).1) ((((y10).1).2).2).1))) fun y18 =>
                                        cond (Bool.not (y18).1)
                                          (
                                          some ((y3).1, (((y3).2).1, ((((y3).2).2).1, (((((y3).2).2).2).1, ((((((y3).2).2).1).1 :: ((((((y3).2).2).2).1).1 :: ([] : List (((List Int) × Bool) × (List Int))))), (true, ())))))))
                                          (
                                          cond (decide (((0 : Nat) + (List.length ((((y7).1).2).2).1)) ≤ (List.length ((((y7).1).2).2).1)))
                                            (
                                            cond (decide (((0 : Nat) + (List.length ((y11).1).1)) ≤ (List.length ((y11).1).1)))
                                              (
                                              cond (decide (((0 : Nat) + (List.length ((((y11).1).2).2).1)) ≤ (List.length ((((y11).1).2).2).1)))
                                                (
                                                Option.bind (F_lodgeref_SameTensor N ((((y7).1).1, (((y7).1).2).1), (List.take (List.length ((((y7).1).2).2).1) ((((y7).1).2).2).1)) (((List.take (List.length ((y11).1).1) ((y11).1).1), (((y11).1).2).1), (List.take (List.length ((((y11).1).2).2).1) ((((y11).1).2).2).1))) fun y19 =>
                                                some ((y3).1, (((y3).2).1, ((((y3).2).2).1, (((((y3).2).2).2).1, ((((((y3).2).2).1).1 :: ((((((y3).2).2).2).1).1 :: ([] : List (((List Int) × Bool) × (List Int))))), ((Bool.not (y19).1), ())))))))
                                                (
                                                none))
                                              (
                                              none))
                                            (
                                            none)))
                                        (
                                        none))
                                      (
                                      none))
                                    (
                                    none)))
                                (
                                none))
                              (
                              none))
                            (
                            none)))
                        (
                        none))
                      (
                      none))
                    (
                    none)))))) fun y20 =>
      cond ((((((y20).2).2).2).2).2).1
        (
        some (false, ()))
        (
        Option.bind (F_soft_Result N (y20).1 ((((((y20).2).2).1).1).1 :: (((((((y20).2).2).2).1).1).1 :: ([] : List ((List Int) × Bool))))) fun y21 =>
        Option.bind (F_lodgeref3_SoftResult N (y20).1 ((((((y20).2).2).1).1).1 :: (((((((y20).2).2).2).1).1).1 :: ([] : List ((List Int) × Bool))))) fun y22 =>
        Option.bind (F_soft_Result N (y20).1 ((((((y20).2).2).1).1).1 :: ([] : List ((List Int) × Bool)))) fun y23 =>
        Option.bind (F_lodgeref3_SoftResult N (y20).1 ((((((y20).2).2).1).1).1 :: ([] : List ((List Int) × Bool)))) fun y24 =>
        Option.bind (
            Option.bind (F_lodgesee_Is N ((y21).2).1 ((y22).2).1) fun y25 =>
            cond (Bool.not (y25).1)
              (
              cond (decide ((List.length (((((y20).2).2).2).2).1) = (List.length (((((y20).2).2).2).2).1)))
                (
                some ((y20).1, (((y20).2).1, ((((y20).2).2).1, (((((y20).2).2).2).1, ((((((y20).2).2).2).2).1, (true, ())))))))
                (
                none))
              (
              cond (decide (((0 : Nat) + (List.length ((y22).1).1)) ≤ (List.length ((y22).1).1)))
                (
                Option.bind (F_lodgeref_SameDesc N (y21).1 ((List.take (List.length ((y22).1).1) ((y22).1).1), (((y22).1).2).1)) fun y26 =>
                cond (Bool.not (y26).1)
                  (
                  cond (decide ((List.length (((((y20).2).2).2).2).1) = (List.length (((((y20).2).2).2).2).1)))
                    (
                    some ((y20).1, (((y20).2).1, ((((y20).2).2).1, (((((y20).2).2).2).1, ((((((y20).2).2).2).2).1, (true, ())))))))
                    (
                    none))
                  (
                  Option.bind (F_lodgesee_Is N ((y23).2).1 ((y24).2).1) fun y27 =>
                  cond (Bool.not (y27).1)
                    (
                    cond (decide ((List.length (((((y20).2).2).2).2).1) = (List.length (((((y20).2).2).2).2).1)))
                      (
                      some ((y20).1, (((y20).2).1, ((((y20).2).2).1, (((((y20).2).2).2).1, ((((((y20).2).2).2).2).1, (true, ())))))))
                      (
                      none))
                    (
                    cond (decide (((0 : Nat) + (List.length ((y24).1).1)) ≤ (List.length ((y24).1).1)))
                      (
                      Option.bind (F_lodgeref_SameDesc N (y23).1 ((List.take (List.length ((y24).1).1) ((y24).1).1), (((y24).1).2).1)) fun y28 =>
                      cond (decide ((List.length (((((y20).2).2).2).2).1) = (List.length (((((y20).2).2).2).2).1)))
                        (
                        some ((y20).1, (((y20).2).1, ((((y20).2).2).1, (((((y20).2).2).2).1, ((((((y20).2).2).2).2).1, ((Bool.not (y28).1), ())))))))
                        (
                        none))
                      (
                      none))))
                (
                none))) fun y29 =>
        cond ((((((y29).2).2).2).2).2).1
          (
          some (false, ()))
          (
          Option.bind (
              cond (decide ((y29).1 = (16 : Int)))
                (
                cond (decide ((List.length (((((y29).2).2).2).2).1) = (List.length (((((y29).2).2).2).2).1)))
                  (
                  some ((y29).1, (((y29).2).1, ((((y29).2).2).1, (((((y29).2).2).2).1, ((((((y29).2).2).2).2).1, (true, ())))))))
                  (
                  none))
                (
                cond (decide ((List.length (((((y29).2).2).2).2).1) = (List.length (((((y29).2).2).2).2).1)))
                  (
                  some ((y29).1, (((y29).2).1, ((((y29).2).2).1, (((((y29).2).2).2).1, ((((((y29).2).2).2).2).1, ((decide ((y29).1 = (17 : Int))), ())))))))
                  (
                  none))) fun y30 =>
          cond ((((((y30).2).2).2).2).2).1
            (
            Option.bind (F_soft_Cell N (y30).1 ((y30).2).1 (((((y30).2).2).1).1 :: ((((((y30).2).2).2).1).1 :: ([] : List (((List Int) × Bool) × (List Int)))))) fun y31 =>
            cond (decide (((0 : Nat) + (List.length (((((y30).2).2).2).2).1)) ≤ (List.length (((((y30).2).2).2).2).1)))
              (
              Option.bind (F_lodgeref3_Element N (y30).1 ([] : List Int) ((y30).2).1 (List.take (List.length (((((y30).2).2).2).2).1) (((((y30).2).2).2).2).1)) fun y32 =>
              some ((decide ((y31).1 = (y32).1)), ()))
              (
              none))
            (
            Option.bind (
                cond (decide ((y30).1 = (19 : Int)))
                  (
                  cond (decide ((List.length (((((y30).2).2).2).2).1) = (List.length (((((y30).2).2).2).2).1)))
                    (
                    some ((y30).1, (((y30).2).1, ((((y30).2).2).1, (((((y30).2).2).2).1, ((((((y30).2).2).2).2).1, (true, ())))))))
                    (
                    none))
                  (
                  cond (decide ((List.length (((((y30).2).2).2).2).1) = (List.length (((((y30).2).2).2).2).1)))
                    (
                    some ((y30).1, (((y30).2).1, ((((y30).2).2).1, (((((y30).2).2).2).1, ((((((y30).2).2).2).2).1, ((decide ((y30).1 = (20 : Int))), ())))))))
                    (
                    none))) fun y33 =>
            cond ((((((y33).2).2).2).2).2).1
              (
              Option.bind (F_soft_Cell N (y33).1 ((y33).2).1 (((((y33).2).2).1).1 :: ([] : List (((List Int) × Bool) × (List Int))))) fun y34 =>
              cond (decide (1 ≤ (List.length (((((y33).2).2).2).2).1)))
                (
                cond (decide ((((0 : Nat) + (0 : Nat)) + (1 - (0 : Nat))) ≤ (List.length (((((y33).2).2).2).2).1)))
                  (
                  Option.bind (F_lodgeref3_Element N (y33).1 ([] : List Int) ((y33).2).1 (List.take (1 - (0 : Nat)) (List.drop ((0 : Nat) + (0 : Nat)) (((((y33).2).2).2).2).1))) fun y35 =>
                  some ((decide ((y34).1 = (y35).1)), ()))
                  (
                  none))
                (
                none))
              (
              Option.bind (F_soft_Cell N (y33).1 ((y33).2).1 (((((y33).2).2).1).1 :: ((((((y33).2).2).2).1).1 :: ([] : List (((List Int) × Bool) × (List Int)))))) fun y36 =>
              some ((decide ((y36).1 = (0 : Int))), ())))))))

abbrev c_lodgelaw11_SoftSays (N : Nat) : CallSpec := ⟨7, ps_lodgelaw11_SoftSays, rs_lodgelaw11_SoftSays, fun x => F_lodgelaw11_SoftSays N x.1 x.2.1 x.2.2.1 x.2.2.2.1⟩

theorem cs_lodgelaw11_SoftSays_ok (S : Nat → Addr) (N : Nat) : CallsOK Go.Proofs.Tryd.prog E S (cs_lodgelaw11_SoftSays N) :=
  .cons (F_soft_Result_ok S N) (.cons (F_soft_Softmax_ok S N) (.cons (F_lodgelaw11_first_ok S N) (.cons (F_lodgeworld_Tensor_ok S N) (.cons (F_soft_Gather_ok S N) (.cons (F_soft_ArgMax_ok S N) (.cons (F_soft_Sum_ok S N) (.cons (F_lodgeref_SameDesc_ok S N) (.cons (F_lodgeref3_SoftResult_ok S N) (.cons (F_lodgeref3_Apply_ok S N) (.cons (F_lodgesee_Same_ok S N) (.cons (F_lodgeref_SameTensor_ok S N) (.cons (F_lodgesee_Is_ok S N) (.cons (F_soft_Cell_ok S N) (.cons (F_lodgeref3_Element_ok S N) (.nil)))))))))))))))
theorem F_lodgelaw11_SoftSays_ok (S : Nat → Addr) (N : Nat) : ∀ x y, (c_lodgelaw11_SoftSays N).g x = some y → FCon Go.Proofs.Tryd.prog E S 7 ps_lodgelaw11_SoftSays rs_lodgelaw11_SoftSays x y := by
  intro x y h
  exact fun_specJ E_ok mixed (cs_lodgelaw11_SoftSays_ok S N) (f := 7) (fi := ⟨b_lodgelaw11_SoftSays, 243, Go.Proofs.Tryd.f7.results.toList⟩) (by kernel_rfl) (ls := []) (.nil) (js := j_lodgelaw11_SoftSays) (by kernel_rfl) (ps := ps_lodgelaw11_SoftSays) (rs := rs_lodgelaw11_SoftSays) (Eq.trans (b := F_lodgelaw11_SoftSays N x.1 x.2.1 x.2.2.1 x.2.2.2.1) (by kernel_rfl) h)

end Go.Proofs.YtohkmbpdjigjdaaDoor.Lg
