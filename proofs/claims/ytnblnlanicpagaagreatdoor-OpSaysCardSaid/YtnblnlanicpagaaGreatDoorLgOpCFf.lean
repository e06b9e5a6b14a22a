/-
  The functions of the seat's program, as plain functions.
-/
import Derived.Test.YtnblnlanicpagaaGreatDoorLgOpCFe
namespace Go.Proofs.YtnblnlanicpagaaGreatDoor.Lg
open Go Go.Eng Go.Proofs
set_option maxRecDepth 100000

/-! lodge/lodgeref3.conv -/

abbrev ps_lodgeref3_conv : List Ty := [(.sl (.int .i64)), (.int .i64), (.st (.pair (.st (.pair (.sl (.int .i64)) .bool)) (.sl (.int .i64)))), (.st (.pair (.st (.pair (.sl (.int .i64)) .bool)) (.sl (.int .i64)))), (.st (.pair (.sl (.int .i64)) .bool))]
abbrev rs_lodgeref3_conv : List Slot := [.data (.int .i64)]
abbrev cs_lodgeref3_conv (N : Nat) : List CallSpec := [c_lodgeref3_Wide N]
noncomputable abbrev b_lodgeref3_conv : Code := (Go.Proofs.Tryz.f67.body).getD .skip

abbrev h_lodgeref3_conv_2 : List Slot := [.data (.sl (.int .i64)), .dead, .dead, .dead, .dead, .dead, .dead, .box [.d (.st (.pair (.st (.pair (.sl (.int .i64)) .bool)) (.sl (.int .i64))))], .box [.d (.st (.pair (.st (.pair (.sl (.int .i64)) .bool)) (.sl (.int .i64))))], .dead, .dead, .data (.int .i64), .data (.int .i64), .data (.int .i64), .data (.int .i64), .data (.int .i64), .data (.int .i64), .data (.int .i64), .data (.int .i64), .data (.int .i64), .data (.int .i64), .dead, .dead, .dead, .dead, .dead, .dead, .dead, .dead, .dead, .dead, .dead, .dead, .dead, .dead, .dead, .dead, .dead, .dead, .dead, .dead, .dead, .dead, .dead, .dead, .dead, .dead, .dead, .dead, .dead, .dead, .dead, .dead, .dead, .dead, .dead, .dead, .dead, .dead, .dead, .dead, .dead, .dead, .dead, .dead, .dead, .dead, .dead, .dead, .dead, .dead, .dead, .dead, .dead, .dead, .dead, .dead, .dead, .dead, .dead, .dead, .dead, .dead, .dead, .dead, .dead, .dead, .dead, .dead, .dead, .dead, .dead, .dead, .dead, .dead, .dead, .dead, .dead, .dead, .dead, .dead, .dead, .dead, .dead, .dead, .dead, .dead, .dead, .dead, .dead, .dead, .dead, .dead, .dead, .dead, .dead, .dead, .dead, .dead, .dead, .dead, .dead, .dead, .dead, .dead, .dead, .dead, .dead, .dead, .dead, .dead, .dead, .dead, .dead, .dead, .dead, .dead, .dead, .dead, .dead, .dead, .dead, .dead, .dead, .dead, .dead, .dead, .dead, .dead, .dead, .dead, .dead, .dead, .dead, .dead, .dead, .dead, .dead, .dead, .dead, .dead, .dead, .dead, .dead, .dead, .dead, .dead, .dead, .dead, .dead, .dead, .dead, .dead, .dead, .dead, .dead]
abbrev e_lodgeref3_conv_2 : List (AX × List Slot) := [(AX.exit 4, [.data (.sl (.int .i64)), .dead, .dead, .dead, .dead, .dead, .dead, .box [.d (.st (.pair (.st (.pair (.sl (.int .i64)) .bool)) (.sl (.int .i64))))], .box [.d (.st (.pair (.st (.pair (.sl (.int .i64)) .bool)) (.sl (.int .i64))))], .dead, .dead, .data (.int .i64), .data (.int .i64), .data (.int .i64), .data (.int .i64), .data (.int .i64), .data (.int .i64), .data (.int .i64), .dead, .dead, .dead, .dead, .dead, .dead, .dead, .dead, .dead, .dead, .dead, .dead, .dead, .dead, .dead, .dead, .dead, .dead, .dead, .dead, .dead, .dead, .dead, .dead, .dead, .dead, .dead, .dead, .dead, .dead, .dead, .dead, .dead, .dead, .dead, .dead, .dead, .dead, .dead, .dead, .dead, .dead, .dead, .dead, .dead, .dead, .dead, .dead, .dead, .dead, .dead, .dead, .dead, .dead, .dead, .dead, .dead, .dead, .dead, .dead, .dead, .dead, .dead, .dead, .dead, .dead, .dead, .dead, .dead, .dead, .dead, .dead, .dead, .dead, .dead, .dead, .dead, .dead, .dead, .dead, .dead, .dead, .dead, .dead, .dead, .dead, .dead, .dead, .dead, .dead, .dead, .dead, .dead, .dead, .dead, .dead, .dead, .dead, .dead, .dead, .dead, .dead, .dead, .dead, .dead, .dead, .dead, .dead, .dead, .dead, .dead, .dead, .dead, .dead, .dead, .dead, .dead, .dead, .dead, .dead, .dead, .dead, .dead, .dead, .dead, .dead, .dead, .dead, .dead, .dead, .dead, .dead, .dead, .dead, .dead, .dead, .dead, .dead, .dead, .dead, .dead, .dead, .dead, .dead, .dead, .dead, .dead, .dead, .dead, .dead, .dead, .dead, .dead, .dead, .dead, .dead, .dead, .dead])]
def g_lodgeref3_conv_2 (N : Nat) : Nat → List Int → (((List Int × Bool) × List Int) × Unit) → (((List Int × Bool) × List Int) × Unit) → Int → Int → Int → Int → Int → Int → Int → Int → Int → Int → Option (List Int × ((((List Int × Bool) × List Int) × Unit) × ((((List Int × Bool) × List Int) × Unit) × (Int × (Int × (Int × (Int × (Int × (Int × (Int × Unit))))))))))
  | 0, _, _, _, _, _, _, _, _, _, _, _, _, _ => none
  | n + 1, args_0, a_7, k_8, n_11, o_12, x_13, y_14, s_15, dy_16, dx_17, r_18, c_19, ch_20 =>
    cond (decide (2 < (List.length (((a_7).1).1).1)))
      (
      cond (decide (ch_20 < (List.getD (((a_7).1).1).1 2 (0 : Int))))
        (
        cond (decide (1 < (List.length (((a_7).1).1).1)))
          (
          cond (decide (2 < (List.length (((a_7).1).1).1)))
            (
            cond (decide ((0 : Int) ≤ (wi64 ((wi64 ((wi64 ((wi64 (r_18 * (List.getD (((a_7).1).1).1 1 (0 : Int)))) + c_19)) * (List.getD (((a_7).1).1).1 2 (0 : Int)))) + ch_20))))
              (
              cond (decide ((Int.toNat (wi64 ((wi64 ((wi64 ((wi64 (r_18 * (List.getD (((a_7).1).1).1 1 (0 : Int)))) + c_19)) * (List.getD (((a_7).1).1).1 2 (0 : Int)))) + ch_20))) < (List.length ((a_7).1).2)))
                (
                cond (decide (2 < (List.length args_0)))
                  (
                  cond (decide (1 < (List.length (((k_8).1).1).1)))
                    (
                    cond (decide (2 < (List.length (((k_8).1).1).1)))
                      (
                      cond (decide ((0 : Int) ≤ (wi64 ((wi64 ((wi64 ((wi64 ((wi64 ((wi64 (dy_16 * (List.getD (((k_8).1).1).1 1 (0 : Int)))) + dx_17)) * (List.getD (((k_8).1).1).1 2 (0 : Int)))) + ch_20)) * n_11)) + o_12))))
                        (
                        cond (decide ((Int.toNat (wi64 ((wi64 ((wi64 ((wi64 ((wi64 ((wi64 (dy_16 * (List.getD (((k_8).1).1).1 1 (0 : Int)))) + dx_17)) * (List.getD (((k_8).1).1).1 2 (0 : Int)))) + ch_20)) * n_11)) + o_12))) < (List.length ((k_8).1).2)))
                          (
                          (g_lodgeref3_conv_2 N n args_0 a_7 k_8 n_11 o_12 x_13 y_14 (wi64 (s_15 + (wi64 ((wi64 ((List.getD ((a_7).1).2 (Int.toNat (wi64 ((wi64 ((wi64 ((wi64 (r_18 * (List.getD (((a_7).1).1).1 1 (0 : Int)))) + c_19)) * (List.getD (((a_7).1).1).1 2 (0 : Int)))) + ch_20))) (0 : Int)) - (List.getD args_0 2 (0 : Int)))) * (List.getD ((k_8).1).2 (Int.toNat (wi64 ((wi64 ((wi64 ((wi64 ((wi64 ((wi64 (dy_16 * (List.getD (((k_8).1).1).1 1 (0 : Int)))) + dx_17)) * (List.getD (((k_8).1).1).1 2 (0 : Int)))) + ch_20)) * n_11)) + o_12))) (0 : Int)))))) dy_16 dx_17 r_18 c_19 (wi64 (ch_20 + (1 : Int)))))
                          (
                          none))
                        (
                        none))
                      (
                      none))
                    (
                    none))
                  (
                  none))
                (
                none))
              (
              none))
            (
            none))
          (
          none))
        (
        some (args_0, (a_7, (k_8, (n_11, (o_12, (x_13, (y_14, (s_15, (dy_16, (dx_17, ()))))))))))))
      (
      none)

abbrev h_lodgeref3_conv_1 : List Slot := [.data (.sl (.int .i64)), .dead, .dead, .dead, .dead, .dead, .dead, .box [.d (.st (.pair (.st (.pair (.sl (.int .i64)) .bool)) (.sl (.int .i64))))], .box [.d (.st (.pair (.st (.pair (.sl (.int .i64)) .bool)) (.sl (.int .i64))))], .dead, .dead, .data (.int .i64), .data (.int .i64), .data (.int .i64), .data (.int .i64), .data (.int .i64), .data (.int .i64), .data (.int .i64), .dead, .dead, .dead, .dead, .dead, .dead, .dead, .dead, .dead, .dead, .dead, .dead, .dead, .dead, .dead, .dead, .dead, .dead, .dead, .dead, .dead, .dead, .dead, .dead, .dead, .dead, .dead, .dead, .dead, .dead, .dead, .dead, .dead, .dead, .dead, .dead, .dead, .dead, .dead, .dead, .dead, .dead, .dead, .dead, .dead, .dead, .dead, .dead, .dead, .dead, .dead, .dead, .dead, .dead, .dead, .dead, .dead, .dead, .dead, .dead, .dead, .dead, .dead, .dead, .dead, .dead, .dead, .dead, .dead, .dead, .dead, .dead, .dead, .dead, .dead, .dead, .dead, .dead, .dead, .dead, .dead, .dead, .dead, .dead, .dead, .dead, .dead, .dead, .dead, .dead, .dead, .dead, .dead, .dead, .dead, .dead, .dead, .dead, .dead, .dead, .dead, .dead, .dead, .dead, .dead, .dead, .dead, .dead, .dead, .dead, .dead, .dead, .dead, .dead, .dead, .dead, .dead, .dead, .dead, .dead, .dead, .dead, .dead, .dead, .dead, .dead, .dead, .dead, .dead, .dead, .dead, .dead, .dead, .dead, .dead, .dead, .dead, .dead, .dead, .dead, .dead, .dead, .dead, .dead, .dead, .dead, .dead, .dead, .dead, .dead, .dead, .dead, .dead, .dead, .dead, .dead, .dead, .dead]
abbrev e_lodgeref3_conv_1 : List (AX × List Slot) := [(AX.exit 2, [.data (.sl (.int .i64)), .dead, .dead, .dead, .dead, .dead, .dead, .box [.d (.st (.pair (.st (.pair (.sl (.int .i64)) .bool)) (.sl (.int .i64))))], .box [.d (.st (.pair (.st (.pair (.sl (.int .i64)) .bool)) (.sl (.int .i64))))], .dead, .dead, .data (.int .i64), .data (.int .i64), .data (.int .i64), .data (.int .i64), .data (.int .i64), .data (.int .i64), .dead, .dead, .dead, .dead, .dead, .dead, .dead, .dead, .dead, .dead, .dead, .dead, .dead, .dead, .dead, .dead, .dead, .dead, .dead, .dead, .dead, .dead, .dead, .dead, .dead, .dead, .dead, .dead, .dead, .dead, .dead, .dead, .dead, .dead, .dead, .dead, .dead, .dead, .dead, .dead, .dead, .dead, .dead, .dead, .dead, .dead, .dead, .dead, .dead, .dead, .dead, .dead, .dead, .dead, .dead, .dead, .dead, .dead, .dead, .dead, .dead, .dead, .dead, .dead, .dead, .dead, .dead, .dead, .dead, .dead, .dead, .dead, .dead, .dead, .dead, .dead, .dead, .dead, .dead, .dead, .dead, .dead, .dead, .dead, .dead, .dead, .dead, .dead, .dead, .dead, .dead, .dead, .dead, .dead, .dead, .dead, .dead, .dead, .dead, .dead, .dead, .dead, .dead, .dead, .dead, .dead, .dead, .dead, .dead, .dead, .dead, .dead, .dead, .dead, .dead, .dead, .dead, .dead, .dead, .dead, .dead, .dead, .dead, .dead, .dead, .dead, .dead, .dead, .dead, .dead, .dead, .dead, .dead, .dead, .dead, .dead, .dead, .dead, .dead, .dead, .dead, .dead, .dead, .dead, .dead, .dead, .dead, .dead, .dead, .dead, .dead, .dead, .dead, .dead, .dead, .dead, .dead, .dead, .dead])]
def g_lodgeref3_conv_1 (N : Nat) : Nat → List Int → (((List Int × Bool) × List Int) × Unit) → (((List Int × Bool) × List Int) × Unit) → Int → Int → Int → Int → Int → Int → Int → Option (List Int × ((((List Int × Bool) × List Int) × Unit) × ((((List Int × Bool) × List Int) × Unit) × (Int × (Int × (Int × (Int × (Int × (Int × Unit)))))))))
  | 0, _, _, _, _, _, _, _, _, _, _ => none
  | n + 1, args_0, a_7, k_8, n_11, o_12, x_13, y_14, s_15, dy_16, dx_17 =>
    cond (decide (1 < (List.length (((k_8).1).1).1)))
      (
      cond (decide (dx_17 < (List.getD (((k_8).1).1).1 1 (0 : Int))))
        (
        cond (decide (0 < (List.length args_0)))
          (
          cond (decide (1 < (List.length args_0)))
            (
            cond (decide (0 < (List.length args_0)))
              (
              cond (decide (1 < (List.length args_0)))
                (
                cond (decide ((wi64 ((wi64 ((wi64 (y_14 * (List.getD args_0 0 (0 : Int)))) - (List.getD args_0 1 (0 : Int)))) + dy_16)) < (0 : Int)))
                  (
                  (g_lodgeref3_conv_1 N n args_0 a_7 k_8 n_11 o_12 x_13 y_14 s_15 dy_16 (wi64 (dx_17 + (1 : Int)))))
                  (
                  cond (decide ((wi64 ((wi64 ((wi64 (x_13 * (List.getD args_0 0 (0 : Int)))) - (List.getD args_0 1 (0 : Int)))) + dx_17)) < (0 : Int)))
                    (
                    (g_lodgeref3_conv_1 N n args_0 a_7 k_8 n_11 o_12 x_13 y_14 s_15 dy_16 (wi64 (dx_17 + (1 : Int)))))
                    (
                    cond (decide (0 < (List.length (((a_7).1).1).1)))
                      (
                      cond (decide ((List.getD (((a_7).1).1).1 0 (0 : Int)) ≤ (wi64 ((wi64 ((wi64 (y_14 * (List.getD args_0 0 (0 : Int)))) - (List.getD args_0 1 (0 : Int)))) + dy_16))))
                        (
                        (g_lodgeref3_conv_1 N n args_0 a_7 k_8 n_11 o_12 x_13 y_14 s_15 dy_16 (wi64 (dx_17 + (1 : Int)))))
                        (
                        cond (decide (1 < (List.length (((a_7).1).1).1)))
                          (
                          cond (decide ((List.getD (((a_7).1).1).1 1 (0 : Int)) ≤ (wi64 ((wi64 ((wi64 (x_13 * (List.getD args_0 0 (0 : Int)))) - (List.getD args_0 1 (0 : Int)))) + dx_17))))
                            (
                            (g_lodgeref3_conv_1 N n args_0 a_7 k_8 n_11 o_12 x_13 y_14 s_15 dy_16 (wi64 (dx_17 + (1 : Int)))))
                            (
                            Option.bind (g_lodgeref3_conv_2 N N args_0 a_7 k_8 n_11 o_12 x_13 y_14 s_15 dy_16 dx_17 (wi64 ((wi64 ((wi64 (y_14 * (List.getD args_0 0 (0 : Int)))) - (List.getD args_0 1 (0 : Int)))) + dy_16)) (wi64 ((wi64 ((wi64 (x_13 * (List.getD args_0 0 (0 : Int)))) - (List.getD args_0 1 (0 : Int)))) + dx_17)) (0 : Int)) fun y1 =>
                            (g_lodgeref3_conv_1 N n (y1).1 ((y1).2).1 (((y1).2).2).1 ((((y1).2).2).2).1 (((((y1).2).2).2).2).1 ((((((y1).2).2).2).2).2).1 (((((((y1).2).2).2).2).2).2).1 ((((((((y1).2).2).2).2).2).2).2).1 (((((((((y1).2).2).2).2).2).2).2).2).1 (wi64 (((((((((((y1).2).2).2).2).2).2).2).2).2).1 + (1 : Int))))))
                          (
                          none)))
                      (
                      none))))
                (
                none))
              (
              none))
            (
            none))
          (
          none))
        (
        some (args_0, (a_7, (k_8, (n_11, (o_12, (x_13, (y_14, (s_15, (dy_16, ())))))))))))
      (
      none)

abbrev h_lodgeref3_conv_0 : List Slot := [.data (.sl (.int .i64)), .dead, .dead, .dead, .dead, .dead, .dead, .box [.d (.st (.pair (.st (.pair (.sl (.int .i64)) .bool)) (.sl (.int .i64))))], .box [.d (.st (.pair (.st (.pair (.sl (.int .i64)) .bool)) (.sl (.int .i64))))], .dead, .dead, .data (.int .i64), .data (.int .i64), .data (.int .i64), .data (.int .i64), .data (.int .i64), .data (.int .i64), .dead, .dead, .dead, .dead, .dead, .dead, .dead, .dead, .dead, .dead, .dead, .dead, .dead, .dead, .dead, .dead, .dead, .dead, .dead, .dead, .dead, .dead, .dead, .dead, .dead, .dead, .dead, .dead, .dead, .dead, .dead, .dead, .dead, .dead, .dead, .dead, .dead, .dead, .dead, .dead, .dead, .dead, .dead, .dead, .dead, .dead, .dead, .dead, .dead, .dead, .dead, .dead, .dead, .dead, .dead, .dead, .dead, .dead, .dead, .dead, .dead, .dead, .dead, .dead, .dead, .dead, .dead, .dead, .dead, .dead, .dead, .dead, .dead, .dead, .dead, .dead, .dead, .dead, .dead, .dead, .dead, .dead, .dead, .dead, .dead, .dead, .dead, .dead, .dead, .dead, .dead, .dead, .dead, .dead, .dead, .dead, .dead, .dead, .dead, .dead, .dead, .dead, .dead, .dead, .dead, .dead, .dead, .dead, .dead, .dead, .dead, .dead, .dead, .dead, .dead, .dead, .dead, .dead, .dead, .dead, .dead, .dead, .dead, .dead, .dead, .dead, .dead, .dead, .dead, .dead, .dead, .dead, .dead, .dead, .dead, .dead, .dead, .dead, .dead, .dead, .dead, .dead, .dead, .dead, .dead, .dead, .dead, .dead, .dead, .dead, .dead, .dead, .dead, .dead, .dead, .dead, .dead, .dead, .dead]
abbrev e_lodgeref3_conv_0 : List (AX × List Slot) := [(AX.exit 0, [.dead, .dead, .dead, .dead, .dead, .dead, .dead, .dead, .dead, .dead, .dead, .dead, .dead, .dead, .dead, .data (.int .i64), .dead, .dead, .dead, .dead, .dead, .dead, .dead, .dead, .dead, .dead, .dead, .dead, .dead, .dead, .dead, .dead, .dead, .dead, .dead, .dead, .dead, .dead, .dead, .dead, .dead, .dead, .dead, .dead, .dead, .dead, .dead, .dead, .dead, .dead, .dead, .dead, .dead, .dead, .dead, .dead, .dead, .dead, .dead, .dead, .dead, .dead, .dead, .dead, .dead, .dead, .dead, .dead, .dead, .dead, .dead, .dead, .dead, .dead, .dead, .dead, .dead, .dead, .dead, .dead, .dead, .dead, .dead, .dead, .dead, .dead, .dead, .dead, .dead, .dead, .dead, .dead, .dead, .dead, .dead, .dead, .dead, .dead, .dead, .dead, .dead, .dead, .dead, .dead, .dead, .dead, .dead, .dead, .dead, .dead, .dead, .dead, .dead, .dead, .dead, .dead, .dead, .dead, .dead, .dead, .dead, .dead, .dead, .dead, .dead, .dead, .dead, .dead, .dead, .dead, .dead, .dead, .dead, .dead, .dead, .dead, .dead, .dead, .dead, .dead, .dead, .dead, .dead, .dead, .dead, .dead, .dead, .dead, .dead, .dead, .dead, .dead, .dead, .dead, .dead, .dead, .dead, .dead, .dead, .dead, .dead, .dead, .dead, .dead, .dead, .dead, .dead, .dead, .dead, .dead, .dead, .dead, .dead, .dead, .dead, .dead])]
def g_lodgeref3_conv_0 (N : Nat) : Nat → List Int → (((List Int × Bool) × List Int) × Unit) → (((List Int × Bool) × List Int) × Unit) → Int → Int → Int → Int → Int → Int → Option (Int × Unit)
  | 0, _, _, _, _, _, _, _, _, _ => none
  | n + 1, args_0, a_7, k_8, n_11, o_12, x_13, y_14, s_15, dy_16 =>
    cond (decide (0 < (List.length (((k_8).1).1).1)))
      (
      cond (decide (dy_16 < (List.getD (((k_8).1).1).1 0 (0 : Int))))
        (
        Option.bind (g_lodgeref3_conv_1 N N args_0 a_7 k_8 n_11 o_12 x_13 y_14 s_15 dy_16 (0 : Int)) fun y3 =>
        (g_lodgeref3_conv_0 N n (y3).1 ((y3).2).1 (((y3).2).2).1 ((((y3).2).2).2).1 (((((y3).2).2).2).2).1 ((((((y3).2).2).2).2).2).1 (((((((y3).2).2).2).2).2).2).1 ((((((((y3).2).2).2).2).2).2).2).1 (wi64 ((((((((((y3).2).2).2).2).2).2).2).2).1 + (1 : Int)))))
        (
        some (s_15, ())))
      (
      none)

def F_lodgeref3_conv (N : Nat) (args_0 : List Int) (i_1 : Int) (a_2 : ((List Int × Bool) × List Int)) (k_3 : ((List Int × Bool) × List Int)) (d_4 : (List Int × Bool)) : Option (Int × Unit) :=
  cond (decide (2 < (List.length (d_4).1)))
    (
    cond (decide (@Ne Int (List.getD (d_4).1 2 (0 : Int)) (0 : Int)))
      (
      cond (decide (@Ne Int (List.getD (d_4).1 2 (0 : Int)) (0 : Int)))
        (
        cond (decide (1 < (List.length (d_4).1)))
          (
          cond (decide (@Ne Int (List.getD (d_4).1 1 (0 : Int)) (0 : Int)))
            (
            cond (decide (@Ne Int (List.getD (d_4).1 2 (0 : Int)) (0 : Int)))
              (
              cond (decide (1 < (List.length (d_4).1)))
                (
                cond (decide (@Ne Int (List.getD (d_4).1 1 (0 : Int)) (0 : Int)))
                  (
                  Option.bind (g_lodgeref3_conv_0 N N args_0 (a_2, ()) (k_3, ()) (List.getD (d_4).1 2 (0 : Int)) (Int.tmod i_1 (List.getD (d_4).1 2 (0 : Int))) (Int.tmod (wi64 (Int.tdiv i_1 (List.getD (d_4).1 2 (0 : Int)))) (List.getD (d_4).1 1 (0 : Int))) (wi64 (Int.tdiv (wi64 (Int.tdiv i_1 (List.getD (d_4).1 2 (0 : Int)))) (List.getD (d_4).1 1 (0 : Int)))) (0 : Int) (0 : Int)) fun y0 =>
                  Option.bind (F_lodgeref3_Wide N (y0).1) fun y1 =>
                  some y1)
                  (
                  none))
                (
                none))
              (
              none))
            (
            none))
          (
          none))
        (
        none))
      (
      none))
    (
    none)

abbrev c_lodgeref3_conv (N : Nat) : CallSpec := ⟨67, ps_lodgeref3_conv, rs_lodgeref3_conv, fun x => F_lodgeref3_conv N x.1 x.2.1 x.2.2.1 x.2.2.2.1 x.2.2.2.2.1⟩
abbrev l_lodgeref3_conv_2 (N : Nat) : LoopSpec := ⟨2, h_lodgeref3_conv_2, e_lodgeref3_conv_2, fun x => g_lodgeref3_conv_2 N N x.1 x.2.1 x.2.2.1 x.2.2.2.1 x.2.2.2.2.1 x.2.2.2.2.2.1 x.2.2.2.2.2.2.1 x.2.2.2.2.2.2.2.1 x.2.2.2.2.2.2.2.2.1 x.2.2.2.2.2.2.2.2.2.1 x.2.2.2.2.2.2.2.2.2.2.1 x.2.2.2.2.2.2.2.2.2.2.2.1 x.2.2.2.2.2.2.2.2.2.2.2.2.1⟩
abbrev l_lodgeref3_conv_1 (N : Nat) : LoopSpec := ⟨1, h_lodgeref3_conv_1, e_lodgeref3_conv_1, fun x => g_lodgeref3_conv_1 N N x.1 x.2.1 x.2.2.1 x.2.2.2.1 x.2.2.2.2.1 x.2.2.2.2.2.1 x.2.2.2.2.2.2.1 x.2.2.2.2.2.2.2.1 x.2.2.2.2.2.2.2.2.1 x.2.2.2.2.2.2.2.2.2.1⟩
abbrev l_lodgeref3_conv_0 (N : Nat) : LoopSpec := ⟨0, h_lodgeref3_conv_0, e_lodgeref3_conv_0, fun x => g_lodgeref3_conv_0 N N x.1 x.2.1 x.2.2.1 x.2.2.2.1 x.2.2.2.2.1 x.2.2.2.2.2.1 x.2.2.2.2.2.2.1 x.2.2.2.2.2.2.2.1 x.2.2.2.2.2.2.2.2.1⟩

theorem cs_lodgeref3_conv_ok (S : Nat → Addr) (N : Nat) : CallsOK Go.Proofs.Tryz.prog E S (cs_lodgeref3_conv N) :=
  .cons (F_lodgeref3_Wide_ok S N) (.nil)
noncomputable abbrev b_lodgeref3_conv_2 : Code := (loopsOf b_lodgeref3_conv).getD 2 .skip
theorem g_lodgeref3_conv_2_ok (S : Nat → Addr) (N : Nat) : ∀ n x y, (fun (x : Val (slotsTy h_lodgeref3_conv_2)) => g_lodgeref3_conv_2 N n x.1 x.2.1 x.2.2.1 x.2.2.2.1 x.2.2.2.2.1 x.2.2.2.2.2.1 x.2.2.2.2.2.2.1 x.2.2.2.2.2.2.2.1 x.2.2.2.2.2.2.2.2.1 x.2.2.2.2.2.2.2.2.2.1 x.2.2.2.2.2.2.2.2.2.2.1 x.2.2.2.2.2.2.2.2.2.2.2.1 x.2.2.2.2.2.2.2.2.2.2.2.2.1) x = some y → LoopCon Go.Proofs.Tryz.prog E S b_lodgeref3_conv_2 (encSlots h_lodgeref3_conv_2 x) (encEx e_lodgeref3_conv_2 y).1 (encEx e_lodgeref3_conv_2 y).2 :=
  loop_spec E_ok mixed (cs_lodgeref3_conv_ok S N) (all := loopsOf b_lodgeref3_conv) (ls := []) (.nil) (i := 2) (by kernel_rfl) (inner_of (by kernel_rfl)) (head := h_lodgeref3_conv_2) (ex := e_lodgeref3_conv_2) (fun n (x : Val (slotsTy h_lodgeref3_conv_2)) => g_lodgeref3_conv_2 N n x.1 x.2.1 x.2.2.1 x.2.2.2.1 x.2.2.2.2.1 x.2.2.2.2.2.1 x.2.2.2.2.2.2.1 x.2.2.2.2.2.2.2.1 x.2.2.2.2.2.2.2.2.1 x.2.2.2.2.2.2.2.2.2.1 x.2.2.2.2.2.2.2.2.2.2.1 x.2.2.2.2.2.2.2.2.2.2.2.1 x.2.2.2.2.2.2.2.2.2.2.2.2.1) (fun _ => rfl) (fun n x => by kernel_rfl)
noncomputable abbrev b_lodgeref3_conv_1 : Code := (loopsOf b_lodgeref3_conv).getD 1 .skip
theorem g_lodgeref3_conv_1_ok (S : Nat → Addr) (N : Nat) : ∀ n x y, (fun (x : Val (slotsTy h_lodgeref3_conv_1)) => g_lodgeref3_conv_1 N n x.1 x.2.1 x.2.2.1 x.2.2.2.1 x.2.2.2.2.1 x.2.2.2.2.2.1 x.2.2.2.2.2.2.1 x.2.2.2.2.2.2.2.1 x.2.2.2.2.2.2.2.2.1 x.2.2.2.2.2.2.2.2.2.1) x = some y → LoopCon Go.Proofs.Tryz.prog E S b_lodgeref3_conv_1 (encSlots h_lodgeref3_conv_1 x) (encEx e_lodgeref3_conv_1 y).1 (encEx e_lodgeref3_conv_1 y).2 :=
  loop_spec E_ok mixed (cs_lodgeref3_conv_ok S N) (all := loopsOf b_lodgeref3_conv) (ls := [l_lodgeref3_conv_2 N]) (.cons (by kernel_rfl) (g_lodgeref3_conv_2_ok S N N) (.nil)) (i := 1) (by kernel_rfl) (inner_of (by kernel_rfl)) (head := h_lodgeref3_conv_1) (ex := e_lodgeref3_conv_1) (fun n (x : Val (slotsTy h_lodgeref3_conv_1)) => g_lodgeref3_conv_1 N n x.1 x.2.1 x.2.2.1 x.2.2.2.1 x.2.2.2.2.1 x.2.2.2.2.2.1 x.2.2.2.2.2.2.1 x.2.2.2.2.2.2.2.1 x.2.2.2.2.2.2.2.2.1 x.2.2.2.2.2.2.2.2.2.1) (fun _ => rfl) (fun n x => by kernel_rfl)
noncomputable abbrev b_lodgeref3_conv_0 : Code := (loopsOf b_lodgeref3_conv).getD 0 .skip
theorem g_lodgeref3_conv_0_ok (S : Nat → Addr) (N : Nat) : ∀ n x y, (fun (x : Val (slotsTy h_lodgeref3_conv_0)) => g_lodgeref3_conv_0 N n x.1 x.2.1 x.2.2.1 x.2.2.2.1 x.2.2.2.2.1 x.2.2.2.2.2.1 x.2.2.2.2.2.2.1 x.2.2.2.2.2.2.2.1 x.2.2.2.2.2.2.2.2.1) x = some y → LoopCon Go.Proofs.Tryz.prog E S b_lodgeref3_conv_0 (encSlots h_lodgeref3_conv_0 x) (encEx e_lodgeref3_conv_0 y).1 (encEx e_lodgeref3_conv_0 y).2 :=
  loop_spec E_ok mixed (cs_lodgeref3_conv_ok S N) (all := loopsOf b_lodgeref3_conv) (ls := [l_lodgeref3_conv_2 N, l_lodgeref3_conv_1 N]) (.cons (by kernel_rfl) (g_lodgeref3_conv_2_ok S N N) (.cons (by kernel_rfl) (g_lodgeref3_conv_1_ok S N N) (.nil))) (i := 0) (by kernel_rfl) (inner_of (by kernel_rfl)) (head := h_lodgeref3_conv_0) (ex := e_lodgeref3_conv_0) (fun n (x : Val (slotsTy h_lodgeref3_conv_0)) => g_lodgeref3_conv_0 N n x.1 x.2.1 x.2.2.1 x.2.2.2.1 x.2.2.2.2.1 x.2.2.2.2.2.1 x.2.2.2.2.2.2.1 x.2.2.2.2.2.2.2.1 x.2.2.2.2.2.2.2.2.1) (fun _ => rfl) (fun n x => by kernel_rfl)
theorem F_lodgeref3_conv_ok (S : Nat → Addr) (N : Nat) : ∀ x y, (c_lodgeref3_conv N).g x = some y → FCon Go.Proofs.Tryz.prog E S 67 ps_lodgeref3_conv rs_lodgeref3_conv x y := by
  intro x y h
  exact fun_spec E_ok mixed (cs_lodgeref3_conv_ok S N) (f := 67) (fi := ⟨b_lodgeref3_conv, 176, Go.Proofs.Tryz.f67.results.toList⟩) (by kernel_rfl) (ls := [l_lodgeref3_conv_2 N, l_lodgeref3_conv_1 N, l_lodgeref3_conv_0 N]) (.cons (by kernel_rfl) (g_lodgeref3_conv_2_ok S N N) (.cons (by kernel_rfl) (g_lodgeref3_conv_1_ok S N N) (.cons (by kernel_rfl) (g_lodgeref3_conv_0_ok S N N) (.nil)))) (by kernel_rfl) (ps := ps_lodgeref3_conv) (rs := rs_lodgeref3_conv) (Eq.trans (b := F_lodgeref3_conv N x.1 x.2.1 x.2.2.1 x.2.2.2.1 x.2.2.2.2.1) (by kernel_rfl) h)

/-! lodge/lodgeref3.div -/

abbrev ps_lodgeref3_div : List Ty := [(.int .i64), (.int .i64)]
abbrev rs_lodgeref3_div : List Slot := [.data (.int .i64)]
abbrev cs_lodgeref3_div (N : Nat) : List CallSpec := []
noncomputable abbrev b_lodgeref3_div : Code := (Go.Proofs.Tryz.f93.body).getD .skip

def F_lodgeref3_div (N : Nat) (a_0 : Int) (b_1 : Int) : Option (Int × Unit) :=
  cond (decide (@Ne Int b_1 (0 : Int)))
    (
    cond (decide (@Ne Int b_1 (0 : Int)))
      (
      cond (decide ((Int.tmod a_0 b_1) < (0 : Int)))
        (
        some ((wi64 ((wi64 (Int.tdiv a_0 b_1)) - (1 : Int))), ()))
        (
        some ((wi64 (Int.tdiv a_0 b_1)), ())))
      (
      none))
    (
    none)

abbrev c_lodgeref3_div (N : Nat) : CallSpec := ⟨93, ps_lodgeref3_div, rs_lodgeref3_div, fun x => F_lodgeref3_div N x.1 x.2.1⟩

theorem cs_lodgeref3_div_ok (S : Nat → Addr) (N : Nat) : CallsOK Go.Proofs.Tryz.prog E S (cs_lodgeref3_div N) :=
  .nil
theorem F_lodgeref3_div_ok (S : Nat → Addr) (N : Nat) : ∀ x y, (c_lodgeref3_div N).g x = some y → FCon Go.Proofs.Tryz.prog E S 93 ps_lodgeref3_div rs_lodgeref3_div x y := by
  intro x y h
  exact fun_spec E_ok mixed (cs_lodgeref3_div_ok S N) (f := 93) (fi := ⟨b_lodgeref3_div, 16, Go.Proofs.Tryz.f93.results.toList⟩) (by kernel_rfl) (ls := []) (.nil) (by kernel_rfl) (ps := ps_lodgeref3_div) (rs := rs_lodgeref3_div) (Eq.trans (b := F_lodgeref3_div N x.1 x.2.1) (by kernel_rfl) h)

/-! lodge/lodgeref3.pool -/

abbrev ps_lodgeref3_pool : List Ty := [.bool, (.sl (.int .i64)), (.int .i64), (.st (.pair (.st (.pair (.sl (.int .i64)) .bool)) (.sl (.int .i64)))), (.st (.pair (.sl (.int .i64)) .bool))]
abbrev rs_lodgeref3_pool : List Slot := [.data (.int .i64)]
abbrev cs_lodgeref3_pool (N : Nat) : List CallSpec := [c_lodgeref3_div N]
noncomputable abbrev b_lodgeref3_pool : Code := (Go.Proofs.Tryz.f68.body).getD .skip

abbrev h_lodgeref3_pool_1 : List Slot := [.data .bool, .data (.sl (.int .i64)), .dead, .dead, .dead, .dead, .dead, .dead, .box [.d (.st (.pair (.st (.pair (.sl (.int .i64)) .bool)) (.sl (.int .i64))))], .dead, .dead, .data (.int .i64), .data (.int .i64), .data (.int .i64), .data (.int .i64), .data (.int .i64), .data (.int .i64), .data (.int .i64), .data (.int .i64), .dead, .dead, .dead, .dead, .dead, .dead, .dead, .dead, .dead, .dead, .dead, .dead, .dead, .dead, .dead, .dead, .dead, .dead, .dead, .dead, .dead, .dead, .dead, .dead, .dead, .dead, .dead, .dead, .dead, .dead, .dead, .dead, .dead, .dead, .dead, .dead, .dead, .dead, .dead, .dead, .dead, .dead, .dead, .dead, .dead, .dead, .dead, .dead, .dead, .dead, .dead, .dead, .dead, .dead, .dead, .dead, .dead, .dead, .dead, .dead, .dead, .dead, .dead, .dead, .dead, .dead, .dead, .dead, .dead, .dead, .dead, .dead, .dead, .dead, .dead, .dead, .dead, .dead, .dead, .dead, .dead, .dead, .dead, .dead, .dead, .dead, .dead, .dead, .dead, .dead, .dead, .dead, .dead, .dead, .dead, .dead, .dead, .dead, .dead]
abbrev e_lodgeref3_pool_1 : List (AX × List Slot) := [(AX.exit 2, [.data .bool, .data (.sl (.int .i64)), .dead, .dead, .dead, .dead, .dead, .dead, .box [.d (.st (.pair (.st (.pair (.sl (.int .i64)) .bool)) (.sl (.int .i64))))], .dead, .dead, .data (.int .i64), .data (.int .i64), .data (.int .i64), .data (.int .i64), .data (.int .i64), .data (.int .i64), .data (.int .i64), .dead, .dead, .dead, .dead, .dead, .dead, .dead, .dead, .dead, .dead, .dead, .dead, .dead, .dead, .dead, .dead, .dead, .dead, .dead, .dead, .dead, .dead, .dead, .dead, .dead, .dead, .dead, .dead, .dead, .dead, .dead, .dead, .dead, .dead, .dead, .dead, .dead, .dead, .dead, .dead, .dead, .dead, .dead, .dead, .dead, .dead, .dead, .dead, .dead, .dead, .dead, .dead, .dead, .dead, .dead, .dead, .dead, .dead, .dead, .dead, .dead, .dead, .dead, .dead, .dead, .dead, .dead, .dead, .dead, .dead, .dead, .dead, .dead, .dead, .dead, .dead, .dead, .dead, .dead, .dead, .dead, .dead, .dead, .dead, .dead, .dead, .dead, .dead, .dead, .dead, .dead, .dead, .dead, .dead, .dead, .dead, .dead, .dead, .dead, .dead])]
def g_lodgeref3_pool_1 (N : Nat) : Nat → Bool → List Int → (((List Int × Bool) × List Int) × Unit) → Int → Int → Int → Int → Int → Int → Int → Int → Option (Bool × (List Int × ((((List Int × Bool) × List Int) × Unit) × (Int × (Int × (Int × (Int × (Int × (Int × (Int × Unit))))))))))
  | 0, _, _, _, _, _, _, _, _, _, _, _ => none
  | n + 1, avg_0, args_1, a_8, c_11, ch_12, x_13, y_14, s_15, best_16, dy_17, dx_18 =>
    cond (decide (0 < (List.length args_1)))
      (
      cond (decide (dx_18 < (List.getD args_1 0 (0 : Int))))
        (
        cond (decide (1 < (List.length args_1)))
          (
          cond (decide (1 < (List.length (((a_8).1).1).1)))
            (
            cond (decide (1 < (List.length args_1)))
              (
              cond (decide ((0 : Int) ≤ (wi64 ((wi64 ((wi64 ((wi64 ((wi64 ((wi64 ((wi64 (y_14 * (List.getD args_1 1 (0 : Int)))) + dy_17)) * (List.getD (((a_8).1).1).1 1 (0 : Int)))) + (wi64 (x_13 * (List.getD args_1 1 (0 : Int)))))) + dx_18)) * c_11)) + ch_12))))
                (
                cond (decide ((Int.toNat (wi64 ((wi64 ((wi64 ((wi64 ((wi64 ((wi64 ((wi64 (y_14 * (List.getD args_1 1 (0 : Int)))) + dy_17)) * (List.getD (((a_8).1).1).1 1 (0 : Int)))) + (wi64 (x_13 * (List.getD args_1 1 (0 : Int)))))) + dx_18)) * c_11)) + ch_12))) < (List.length ((a_8).1).2)))
                  (
                  cond (decide (dy_17 = (0 : Int)))
                    (
                    cond (decide (dx_18 = (0 : Int)))
                      (
                      (g_lodgeref3_pool_1 N n avg_0 args_1 a_8 c_11 ch_12 x_13 y_14 (wi64 (s_15 + (List.getD ((a_8).1).2 (Int.toNat (wi64 ((wi64 ((wi64 ((wi64 ((wi64 ((wi64 ((wi64 (y_14 * (List.getD args_1 1 (0 : Int)))) + dy_17)) * (List.getD (((a_8).1).1).1 1 (0 : Int)))) + (wi64 (x_13 * (List.getD args_1 1 (0 : Int)))))) + dx_18)) * c_11)) + ch_12))) (0 : Int)))) (List.getD ((a_8).1).2 (Int.toNat (wi64 ((wi64 ((wi64 ((wi64 ((wi64 ((wi64 ((wi64 (y_14 * (List.getD args_1 1 (0 : Int)))) + dy_17)) * (List.getD (((a_8).1).1).1 1 (0 : Int)))) + (wi64 (x_13 * (List.getD args_1 1 (0 : Int)))))) + dx_18)) * c_11)) + ch_12))) (0 : Int)) dy_17 (wi64 (dx_18 + (1 : Int)))))
                      (
                      cond (decide (best_16 < (List.getD ((a_8).1).2 (Int.toNat (wi64 ((wi64 ((wi64 ((wi64 ((wi64 ((wi64 ((wi64 (y_14 * (List.getD args_1 1 (0 : Int)))) + dy_17)) * (List.getD (((a_8).1).1).1 1 (0 : Int)))) + (wi64 (x_13 * (List.getD args_1 1 (0 : Int)))))) + dx_18)) * c_11)) + ch_12))) (0 : Int))))
                        (
                        (g_lodgeref3_pool_1 N n avg_0 args_1 a_8 c_11 ch_12 x_13 y_14 (wi64 (s_15 + (List.getD ((a_8).1).2 (Int.toNat (wi64 ((wi64 ((wi64 ((wi64 ((wi64 ((wi64 ((wi64 (y_14 * (List.getD args_1 1 (0 : Int)))) + dy_17)) * (List.getD (((a_8).1).1).1 1 (0 : Int)))) + (wi64 (x_13 * (List.getD args_1 1 (0 : Int)))))) + dx_18)) * c_11)) + ch_12))) (0 : Int)))) (List.getD ((a_8).1).2 (Int.toNat (wi64 ((wi64 ((wi64 ((wi64 ((wi64 ((wi64 ((wi64 (y_14 * (List.getD args_1 1 (0 : Int)))) + dy_17)) * (List.getD (((a_8).1).1).1 1 (0 : Int)))) + (wi64 (x_13 * (List.getD args_1 1 (0 : Int)))))) + dx_18)) * c_11)) + ch_12))) (0 : Int)) dy_17 (wi64 (dx_18 + (1 : Int)))))
                        (
                        (g_lodgeref3_pool_1 N n avg_0 args_1 a_8 c_11 ch_12 x_13 y_14 (wi64 (s_15 + (List.getD ((a_8).1).2 (Int.toNat (wi64 ((wi64 ((wi64 ((wi64 ((wi64 ((wi64 ((wi64 (y_14 * (List.getD args_1 1 (0 : Int)))) + dy_17)) * (List.getD (((a_8).1).1).1 1 (0 : Int)))) + (wi64 (x_13 * (List.getD args_1 1 (0 : Int)))))) + dx_18)) * c_11)) + ch_12))) (0 : Int)))) best_16 dy_17 (wi64 (dx_18 + (1 : Int)))))))
                    (
                    cond (decide (best_16 < (List.getD ((a_8).1).2 (Int.toNat (wi64 ((wi64 ((wi64 ((wi64 ((wi64 ((wi64 ((wi64 (y_14 * (List.getD args_1 1 (0 : Int)))) + dy_17)) * (List.getD (((a_8).1).1).1 1 (0 : Int)))) + (wi64 (x_13 * (List.getD args_1 1 (0 : Int)))))) + dx_18)) * c_11)) + ch_12))) (0 : Int))))
                      (
                      (g_lodgeref3_pool_1 N n avg_0 args_1 a_8 c_11 ch_12 x_13 y_14 (wi64 (s_15 + (List.getD ((a_8).1).2 (Int.toNat (wi64 ((wi64 ((wi64 ((wi64 ((wi64 ((wi64 ((wi64 (y_14 * (List.getD args_1 1 (0 : Int)))) + dy_17)) * (List.getD (((a_8).1).1).1 1 (0 : Int)))) + (wi64 (x_13 * (List.getD args_1 1 (0 : Int)))))) + dx_18)) * c_11)) + ch_12))) (0 : Int)))) (List.getD ((a_8).1).2 (Int.toNat (wi64 ((wi64 ((wi64 ((wi64 ((wi64 ((wi64 ((wi64 (y_14 * (List.getD args_1 1 (0 : Int)))) + dy_17)) * (List.getD (((a_8).1).1).1 1 (0 : Int)))) + (wi64 (x_13 * (List.getD args_1 1 (0 : Int)))))) + dx_18)) * c_11)) + ch_12))) (0 : Int)) dy_17 (wi64 (dx_18 + (1 : Int)))))
                      (
                      (g_lodgeref3_pool_1 N n avg_0 args_1 a_8 c_11 ch_12 x_13 y_14 (wi64 (s_15 + (List.getD ((a_8).1).2 (Int.toNat (wi64 ((wi64 ((wi64 ((wi64 ((wi64 ((wi64 ((wi64 (y_14 * (List.getD args_1 1 (0 : Int)))) + dy_17)) * (List.getD (((a_8).1).1).1 1 (0 : Int)))) + (wi64 (x_13 * (List.getD args_1 1 (0 : Int)))))) + dx_18)) * c_11)) + ch_12))) (0 : Int)))) best_16 dy_17 (wi64 (dx_18 + (1 : Int)))))))
                  (
                  none))
                (
                none))
              (
              none))
            (
            none))
          (
          none))
        (
        some (avg_0, (args_1, (a_8, (c_11, (ch_12, (x_13, (y_14, (s_15, (best_16, (dy_17, ()))))))))))))
      (
      none)

abbrev h_lodgeref3_pool_0 : List Slot := [.data .bool, .data (.sl (.int .i64)), .dead, .dead, .dead, .dead, .dead, .dead, .box [.d (.st (.pair (.st (.pair (.sl (.int .i64)) .bool)) (.sl (.int .i64))))], .dead, .dead, .data (.int .i64), .data (.int .i64), .data (.int .i64), .data (.int .i64), .data (.int .i64), .data (.int .i64), .data (.int .i64), .dead, .dead, .dead, .dead, .dead, .dead, .dead, .dead, .dead, .dead, .dead, .dead, .dead, .dead, .dead, .dead, .dead, .dead, .dead, .dead, .dead, .dead, .dead, .dead, .dead, .dead, .dead, .dead, .dead, .dead, .dead, .dead, .dead, .dead, .dead, .dead, .dead, .dead, .dead, .dead, .dead, .dead, .dead, .dead, .dead, .dead, .dead, .dead, .dead, .dead, .dead, .dead, .dead, .dead, .dead, .dead, .dead, .dead, .dead, .dead, .dead, .dead, .dead, .dead, .dead, .dead, .dead, .dead, .dead, .dead, .dead, .dead, .dead, .dead, .dead, .dead, .dead, .dead, .dead, .dead, .dead, .dead, .dead, .dead, .dead, .dead, .dead, .dead, .dead, .dead, .dead, .dead, .dead, .dead, .dead, .dead, .dead, .dead, .dead, .dead]
abbrev e_lodgeref3_pool_0 : List (AX × List Slot) := [(AX.exit 0, [.data .bool, .data (.sl (.int .i64)), .dead, .dead, .dead, .dead, .dead, .dead, .dead, .dead, .dead, .dead, .dead, .dead, .dead, .data (.int .i64), .data (.int .i64), .dead, .dead, .dead, .dead, .dead, .dead, .dead, .dead, .dead, .dead, .dead, .dead, .dead, .dead, .dead, .dead, .dead, .dead, .dead, .dead, .dead, .dead, .dead, .dead, .dead, .dead, .dead, .dead, .dead, .dead, .dead, .dead, .dead, .dead, .dead, .dead, .dead, .dead, .dead, .dead, .dead, .dead, .dead, .dead, .dead, .dead, .dead, .dead, .dead, .dead, .dead, .dead, .dead, .dead, .dead, .dead, .dead, .dead, .dead, .dead, .dead, .dead, .dead, .dead, .dead, .dead, .dead, .dead, .dead, .dead, .dead, .dead, .dead, .dead, .dead, .dead, .dead, .dead, .dead, .dead, .dead, .dead, .dead, .dead, .dead, .dead, .dead, .dead, .dead, .dead, .dead, .dead, .dead, .dead, .dead, .dead, .dead, .dead, .dead, .dead, .dead])]
def g_lodgeref3_pool_0 (N : Nat) : Nat → Bool → List Int → (((List Int × Bool) × List Int) × Unit) → Int → Int → Int → Int → Int → Int → Int → Option (Bool × (List Int × (Int × (Int × Unit))))
  | 0, _, _, _, _, _, _, _, _, _, _ => none
  | n + 1, avg_0, args_1, a_8, c_11, ch_12, x_13, y_14, s_15, best_16, dy_17 =>
    cond (decide (0 < (List.length args_1)))
      (
      cond (decide (dy_17 < (List.getD args_1 0 (0 : Int))))
        (
        Option.bind (g_lodgeref3_pool_1 N N avg_0 args_1 a_8 c_11 ch_12 x_13 y_14 s_15 best_16 dy_17 (0 : Int)) fun y1 =>
        (g_lodgeref3_pool_0 N n (y1).1 ((y1).2).1 (((y1).2).2).1 ((((y1).2).2).2).1 (((((y1).2).2).2).2).1 ((((((y1).2).2).2).2).2).1 (((((((y1).2).2).2).2).2).2).1 ((((((((y1).2).2).2).2).2).2).2).1 (((((((((y1).2).2).2).2).2).2).2).2).1 (wi64 (((((((((((y1).2).2).2).2).2).2).2).2).2).1 + (1 : Int)))))
        (
        some (avg_0, (args_1, (s_15, (best_16, ()))))))
      (
      none)

def F_lodgeref3_pool (N : Nat) (avg_0 : Bool) (args_1 : List Int) (i_2 : Int) (a_3 : ((List Int × Bool) × List Int)) (d_4 : (List Int × Bool)) : Option (Int × Unit) :=
  cond (decide (2 < (List.length (d_4).1)))
    (
    cond (decide (@Ne Int (List.getD (d_4).1 2 (0 : Int)) (0 : Int)))
      (
      cond (decide (@Ne Int (List.getD (d_4).1 2 (0 : Int)) (0 : Int)))
        (
        cond (decide (1 < (List.length (d_4).1)))
          (
          cond (decide (@Ne Int (List.getD (d_4).1 1 (0 : Int)) (0 : Int)))
            (
            cond (decide (@Ne Int (List.getD (d_4).1 2 (0 : Int)) (0 : Int)))
              (
              cond (decide (1 < (List.length (d_4).1)))
                (
                cond (decide (@Ne Int (List.getD (d_4).1 1 (0 : Int)) (0 : Int)))
                  (
                  Option.bind (g_lodgeref3_pool_0 N N avg_0 args_1 (a_3, ()) (List.getD (d_4).1 2 (0 : Int)) (Int.tmod i_2 (List.getD (d_4).1 2 (0 : Int))) (Int.tmod (wi64 (Int.tdiv i_2 (List.getD (d_4).1 2 (0 : Int)))) (List.getD (d_4).1 1 (0 : Int))) (wi64 (Int.tdiv (wi64 (Int.tdiv i_2 (List.getD (d_4).1 2 (0 : Int)))) (List.getD (d_4).1 1 (0 : Int)))) (0 : Int) (0 : Int) (0 : Int)) fun y0 =>
                  cond (y0).1
                    (
                    cond (decide (0 < (List.length ((y0).2).1)))
                      (
                      cond (decide (0 < (List.length ((y0).2).1)))
                        (
                        Option.bind (F_lodgeref3_div N (wi64 ((wi64 ((2 : Int) * (((y0).2).2).1)) + (wi64 ((List.getD ((y0).2).1 0 (0 : Int)) * (List.getD ((y0).2).1 0 (0 : Int)))))) (wi64 ((2 : Int) * (wi64 ((List.getD ((y0).2).1 0 (0 : Int)) * (List.getD ((y0).2).1 0 (0 : Int))))))) fun y1 =>
                        some y1)
                        (
                        none))
                      (
                      none))
                    (
                    some (((y0).2).2).2))
                  (
                  none))
                (
                none))
              (
              none))
            (
            none))
          (
          none))
        (
        none))
      (
      none))
    (
    none)

abbrev c_lodgeref3_pool (N : Nat) : CallSpec := ⟨68, ps_lodgeref3_pool, rs_lodgeref3_pool, fun x => F_lodgeref3_pool N x.1 x.2.1 x.2.2.1 x.2.2.2.1 x.2.2.2.2.1⟩
abbrev l_lodgeref3_pool_1 (N : Nat) : LoopSpec := ⟨1, h_lodgeref3_pool_1, e_lodgeref3_pool_1, fun x => g_lodgeref3_pool_1 N N x.1 x.2.1 x.2.2.1 x.2.2.2.1 x.2.2.2.2.1 x.2.2.2.2.2.1 x.2.2.2.2.2.2.1 x.2.2.2.2.2.2.2.1 x.2.2.2.2.2.2.2.2.1 x.2.2.2.2.2.2.2.2.2.1 x.2.2.2.2.2.2.2.2.2.2.1⟩
abbrev l_lodgeref3_pool_0 (N : Nat) : LoopSpec := ⟨0, h_lodgeref3_pool_0, e_lodgeref3_pool_0, fun x => g_lodgeref3_pool_0 N N x.1 x.2.1 x.2.2.1 x.2.2.2.1 x.2.2.2.2.1 x.2.2.2.2.2.1 x.2.2.2.2.2.2.1 x.2.2.2.2.2.2.2.1 x.2.2.2.2.2.2.2.2.1 x.2.2.2.2.2.2.2.2.2.1⟩

theorem cs_lodgeref3_pool_ok (S : Nat → Addr) (N : Nat) : CallsOK Go.Proofs.Tryz.prog E S (cs_lodgeref3_pool N) :=
  .cons (F_lodgeref3_div_ok S N) (.nil)
noncomputable abbrev b_lodgeref3_pool_1 : Code := (loopsOf b_lodgeref3_pool).getD 1 .skip
theorem g_lodgeref3_pool_1_ok (S : Nat → Addr) (N : Nat) : ∀ n x y, (fun (x : Val (slotsTy h_lodgeref3_pool_1)) => g_lodgeref3_pool_1 N n x.1 x.2.1 x.2.2.1 x.2.2.2.1 x.2.2.2.2.1 x.2.2.2.2.2.1 x.2.2.2.2.2.2.1 x.2.2.2.2.2.2.2.1 x.2.2.2.2.2.2.2.2.1 x.2.2.2.2.2.2.2.2.2.1 x.2.2.2.2.2.2.2.2.2.2.1) x = some y → LoopCon Go.Proofs.Tryz.prog E S b_lodgeref3_pool_1 (encSlots h_lodgeref3_pool_1 x) (encEx e_lodgeref3_pool_1 y).1 (encEx e_lodgeref3_pool_1 y).2 :=
  loop_spec E_ok mixed (cs_lodgeref3_pool_ok S N) (all := loopsOf b_lodgeref3_pool) (ls := []) (.nil) (i := 1) (by kernel_rfl) (inner_of (by kernel_rfl)) (head := h_lodgeref3_pool_1) (ex := e_lodgeref3_pool_1) (fun n (x : Val (slotsTy h_lodgeref3_pool_1)) => g_lodgeref3_pool_1 N n x.1 x.2.1 x.2.2.1 x.2.2.2.1 x.2.2.2.2.1 x.2.2.2.2.2.1 x.2.2.2.2.2.2.1 x.2.2.2.2.2.2.2.1 x.2.2.2.2.2.2.2.2.1 x.2.2.2.2.2.2.2.2.2.1 x.2.2.2.2.2.2.2.2.2.2.1) (fun _ => rfl) (fun n x => by kernel_rfl)
noncomputable abbrev b_lodgeref3_pool_0 : Code := (loopsOf b_lodgeref3_pool).getD 0 .skip
theorem g_lodgeref3_pool_0_ok (S : Nat → Addr) (N : Nat) : ∀ n x y, (fun (x : Val (slotsTy h_lodgeref3_pool_0)) => g_lodgeref3_pool_0 N n x.1 x.2.1 x.2.2.1 x.2.2.2.1 x.2.2.2.2.1 x.2.2.2.2.2.1 x.2.2.2.2.2.2.1 x.2.2.2.2.2.2.2.1 x.2.2.2.2.2.2.2.2.1 x.2.2.2.2.2.2.2.2.2.1) x = some y → LoopCon Go.Proofs.Tryz.prog E S b_lodgeref3_pool_0 (encSlots h_lodgeref3_pool_0 x) (encEx e_lodgeref3_pool_0 y).1 (encEx e_lodgeref3_pool_0 y).2 :=
  loop_spec E_ok mixed (cs_lodgeref3_pool_ok S N) (all := loopsOf b_lodgeref3_pool) (ls := [l_lodgeref3_pool_1 N]) (.cons (by kernel_rfl) (g_lodgeref3_pool_1_ok S N N) (.nil)) (i := 0) (by kernel_rfl) (inner_of (by kernel_rfl)) (head := h_lodgeref3_pool_0) (ex := e_lodgeref3_pool_0) (fun n (x : Val (slotsTy h_lodgeref3_pool_0)) => g_lodgeref3_pool_0 N n x.1 x.2.1 x.2.2.1 x.2.2.2.1 x.2.2.2.2.1 x.2.2.2.2.2.1 x.2.2.2.2.2.2.1 x.2.2.2.2.2.2.2.1 x.2.2.2.2.2.2.2.2.1 x.2.2.2.2.2.2.2.2.2.1) (fun _ => rfl) (fun n x => by kernel_rfl)
theorem F_lodgeref3_pool_ok (S : Nat → Addr) (N : Nat) : ∀ x y, (c_lodgeref3_pool N).g x = some y → FCon Go.Proofs.Tryz.prog E S 68 ps_lodgeref3_pool rs_lodgeref3_pool x y := by
  intro x y h
  exact fun_spec E_ok mixed (cs_lodgeref3_pool_ok S N) (f := 68) (fi := ⟨b_lodgeref3_pool, 118, Go.Proofs.Tryz.f68.results.toList⟩) (by kernel_rfl) (ls := [l_lodgeref3_pool_1 N, l_lodgeref3_pool_0 N]) (.cons (by kernel_rfl) (g_lodgeref3_pool_1_ok S N N) (.cons (by kernel_rfl) (g_lodgeref3_pool_0_ok S N N) (.nil))) (by kernel_rfl) (ps := ps_lodgeref3_pool) (rs := rs_lodgeref3_pool) (Eq.trans (b := F_lodgeref3_pool N x.1 x.2.1 x.2.2.1 x.2.2.2.1 x.2.2.2.2.1) (by kernel_rfl) h)

/-! lodge/lodgeref3.softmax -/

abbrev ps_lodgeref3_softmax : List Ty := [(.int .i64), (.st (.pair (.st (.pair (.sl (.int .i64)) .bool)) (.sl (.int .i64)))), (.st (.pair (.st (.pair (.sl (.int .i64)) .bool)) (.sl (.int .i64))))]
abbrev rs_lodgeref3_softmax : List Slot := [.data (.int .i64)]
abbrev cs_lodgeref3_softmax (N : Nat) : List CallSpec := []
noncomputable abbrev b_lodgeref3_softmax : Code := (Go.Proofs.Tryz.f69.body).getD .skip

abbrev h_lodgeref3_softmax_0 : List Slot := [.data (.int .i64), .dead, .dead, .dead, .box [.d (.st (.pair (.st (.pair (.sl (.int .i64)) .bool)) (.sl (.int .i64))))], .box [.d (.st (.pair (.st (.pair (.sl (.int .i64)) .bool)) (.sl (.int .i64))))], .dead, .data (.int .i64), .data (.int .i64), .data (.int .i64), .data (.int .i64), .dead, .dead, .dead, .dead, .dead, .dead, .dead, .dead, .dead, .dead, .dead, .dead, .dead, .dead, .dead, .dead, .dead, .dead, .dead, .dead, .dead, .dead, .dead, .dead, .dead, .dead, .dead, .dead, .dead, .dead, .dead, .dead, .dead, .dead, .dead, .dead, .dead, .dead, .dead, .dead, .dead, .dead, .dead, .dead, .dead, .dead, .dead, .dead, .dead, .dead, .dead, .dead, .dead, .dead, .dead, .dead, .dead, .dead, .dead, .dead, .dead, .dead, .dead, .dead, .dead, .dead, .dead, .dead, .dead, .dead, .dead, .dead, .dead, .dead, .dead, .dead, .dead, .dead, .dead, .dead]
abbrev e_lodgeref3_softmax_0 : List (AX × List Slot) := [(AX.exit 0, [.data (.int .i64), .dead, .dead, .dead, .box [.d (.st (.pair (.st (.pair (.sl (.int .i64)) .bool)) (.sl (.int .i64))))], .box [.d (.st (.pair (.st (.pair (.sl (.int .i64)) .bool)) (.sl (.int .i64))))], .dead, .data (.int .i64), .data (.int .i64), .data (.int .i64), .dead, .dead, .dead, .dead, .dead, .dead, .dead, .dead, .dead, .dead, .dead, .dead, .dead, .dead, .dead, .dead, .dead, .dead, .dead, .dead, .dead, .dead, .dead, .dead, .dead, .dead, .dead, .dead, .dead, .dead, .dead, .dead, .dead, .dead, .dead, .dead, .dead, .dead, .dead, .dead, .dead, .dead, .dead, .dead, .dead, .dead, .dead, .dead, .dead, .dead, .dead, .dead, .dead, .dead, .dead, .dead, .dead, .dead, .dead, .dead, .dead, .dead, .dead, .dead, .dead, .dead, .dead, .dead, .dead, .dead, .dead, .dead, .dead, .dead, .dead, .dead, .dead, .dead, .dead, .dead, .dead])]
def g_lodgeref3_softmax_0 (N : Nat) : Nat → Int → (((List Int × Bool) × List Int) × Unit) → (((List Int × Bool) × List Int) × Unit) → Int → Int → Int → Int → Option (Int × ((((List Int × Bool) × List Int) × Unit) × ((((List Int × Bool) × List Int) × Unit) × (Int × (Int × (Int × Unit))))))
  | 0, _, _, _, _, _, _, _ => none
  | n + 1, i_0, a_4, table_5, n_7, row_8, m_9, j_10 =>
    cond (decide (j_10 < n_7))
      (
      cond (decide ((0 : Int) ≤ (wi64 (row_8 + j_10))))
        (
        cond (decide ((Int.toNat (wi64 (row_8 + j_10))) < (List.length ((a_4).1).2)))
          (
          (g_lodgeref3_softmax_0 N n i_0 a_4 table_5 n_7 row_8 (Go.Eng.imax m_9 (List.getD ((a_4).1).2 (Int.toNat (wi64 (row_8 + j_10))) (0 : Int))) (wi64 (j_10 + (1 : Int)))))
          (
          none))
        (
        none))
      (
      some (i_0, (a_4, (table_5, (n_7, (row_8, (m_9, ())))))))

abbrev h_lodgeref3_softmax_1 : List Slot := [.data (.int .i64), .dead, .dead, .dead, .box [.d (.st (.pair (.st (.pair (.sl (.int .i64)) .bool)) (.sl (.int .i64))))], .box [.d (.st (.pair (.st (.pair (.sl (.int .i64)) .bool)) (.sl (.int .i64))))], .dead, .data (.int .i64), .data (.int .i64), .data (.int .i64), .dead, .data (.int .i64), .data (.int .i64), .dead, .dead, .dead, .dead, .dead, .dead, .dead, .dead, .dead, .dead, .dead, .dead, .dead, .dead, .dead, .dead, .dead, .dead, .dead, .dead, .dead, .dead, .dead, .dead, .dead, .dead, .dead, .dead, .dead, .dead, .dead, .dead, .dead, .dead, .dead, .dead, .dead, .dead, .dead, .dead, .dead, .dead, .dead, .dead, .dead, .dead, .dead, .dead, .dead, .dead, .dead, .dead, .dead, .dead, .dead, .dead, .dead, .dead, .dead, .dead, .dead, .dead, .dead, .dead, .dead, .dead, .dead, .dead, .dead, .dead, .dead, .dead, .dead, .dead, .dead, .dead, .dead, .dead]
abbrev e_lodgeref3_softmax_1 : List (AX × List Slot) := [(AX.exit 2, [.data (.int .i64), .dead, .dead, .dead, .box [.d (.st (.pair (.st (.pair (.sl (.int .i64)) .bool)) (.sl (.int .i64))))], .box [.d (.st (.pair (.st (.pair (.sl (.int .i64)) .bool)) (.sl (.int .i64))))], .dead, .dead, .dead, .data (.int .i64), .dead, .data (.int .i64), .dead, .dead, .dead, .dead, .dead, .dead, .dead, .dead, .dead, .dead, .dead, .dead, .dead, .dead, .dead, .dead, .dead, .dead, .dead, .dead, .dead, .dead, .dead, .dead, .dead, .dead, .dead, .dead, .dead, .dead, .dead, .dead, .dead, .dead, .dead, .dead, .dead, .dead, .dead, .dead, .dead, .dead, .dead, .dead, .dead, .dead, .dead, .dead, .dead, .dead, .dead, .dead, .dead, .dead, .dead, .dead, .dead, .dead, .dead, .dead, .dead, .dead, .dead, .dead, .dead, .dead, .dead, .dead, .dead, .dead, .dead, .dead, .dead, .dead, .dead, .dead, .dead, .dead, .dead])]
def g_lodgeref3_softmax_1 (N : Nat) : Nat → Int → (((List Int × Bool) × List Int) × Unit) → (((List Int × Bool) × List Int) × Unit) → Int → Int → Int → Int → Int → Option (Int × ((((List Int × Bool) × List Int) × Unit) × ((((List Int × Bool) × List Int) × Unit) × (Int × (Int × Unit)))))
  | 0, _, _, _, _, _, _, _, _ => none
  | n + 1, i_0, a_4, table_5, n_7, row_8, m_9, s_11, j_12 =>
    cond (decide (j_12 < n_7))
      (
      cond (decide ((0 : Int) ≤ (wi64 (row_8 + j_12))))
        (
        cond (decide ((Int.toNat (wi64 (row_8 + j_12))) < (List.length ((a_4).1).2)))
          (
          cond (decide ((0 : Int) ≤ (wi64 (m_9 - (List.getD ((a_4).1).2 (Int.toNat (wi64 (row_8 + j_12))) (0 : Int))))))
            (
            cond (decide ((Int.toNat (wi64 (m_9 - (List.getD ((a_4).1).2 (Int.toNat (wi64 (row_8 + j_12))) (0 : Int))))) < (List.length ((table_5).1).2)))
              (
              (g_lodgeref3_softmax_1 N n i_0 a_4 table_5 n_7 row_8 m_9 (wi64 (s_11 + (Go.Eng.imax (0 : Int) (List.getD ((table_5).1).2 (Int.toNat (wi64 (m_9 - (List.getD ((a_4).1).2 (Int.toNat (wi64 (row_8 + j_12))) (0 : Int))))) (0 : Int))))) (wi64 (j_12 + (1 : Int)))))
              (
              none))
            (
            none))
          (
          none))
        (
        none))
      (
      some (i_0, (a_4, (table_5, (m_9, (s_11, ()))))))

def F_lodgeref3_softmax (N : Nat) (i_0 : Int) (a_1 : ((List Int × Bool) × List Int)) (table_2 : ((List Int × Bool) × List Int)) : Option (Int × Unit) :=
  cond (decide ((0 : Int) ≤ (wi64 ((Nat.cast (List.length ((a_1).1).1) : Int) - (1 : Int)))))
    (
    cond (decide ((Int.toNat (wi64 ((Nat.cast (List.length ((a_1).1).1) : Int) - (1 : Int)))) < (List.length ((a_1).1).1)))
      (
      cond (decide (@Ne Int (List.getD ((a_1).1).1 (Int.toNat (wi64 ((Nat.cast (List.length ((a_1).1).1) : Int) - (1 : Int)))) (0 : Int)) (0 : Int)))
        (
        cond (decide ((0 : Int) ≤ (wi64 ((wi64 (Int.tdiv i_0 (List.getD ((a_1).1).1 (Int.toNat (wi64 ((Nat.cast (List.length ((a_1).1).1) : Int) - (1 : Int)))) (0 : Int)))) * (List.getD ((a_1).1).1 (Int.toNat (wi64 ((Nat.cast (List.length ((a_1).1).1) : Int) - (1 : Int)))) (0 : Int))))))
          (
          cond (decide ((Int.toNat (wi64 ((wi64 (Int.tdiv i_0 (List.getD ((a_1).1).1 (Int.toNat (wi64 ((Nat.cast (List.length ((a_1).1).1) : Int) - (1 : Int)))) (0 : Int)))) * (List.getD ((a_1).1).1 (Int.toNat (wi64 ((Nat.cast (List.length ((a_1).1).1) : Int) - (1 : Int)))) (0 : Int))))) < (List.length (a_1).2)))
            (
            Option.bind (g_lodgeref3_softmax_0 N N i_0 (a_1, ()) (table_2, ()) (List.getD ((a_1).1).1 (Int.toNat (wi64 ((Nat.cast (List.length ((a_1).1).1) : Int) - (1 : Int)))) (0 : Int)) (wi64 ((wi64 (Int.tdiv i_0 (List.getD ((a_1).1).1 (Int.toNat (wi64 ((Nat.cast (List.length ((a_1).1).1) : Int) - (1 : Int)))) (0 : Int)))) * (List.getD ((a_1).1).1 (Int.toNat (wi64 ((Nat.cast (List.length ((a_1).1).1) : Int) - (1 : Int)))) (0 : Int)))) (List.getD (a_1).2 (Int.toNat (wi64 ((wi64 (Int.tdiv i_0 (List.getD ((a_1).1).1 (Int.toNat (wi64 ((Nat.cast (List.length ((a_1).1).1) : Int) - (1 : Int)))) (0 : Int)))) * (List.getD ((a_1).1).1 (Int.toNat (wi64 ((Nat.cast (List.length ((a_1).1).1) : Int) - (1 : Int)))) (0 : Int))))) (0 : Int)) (0 : Int)) fun y0 =>
            Option.bind (g_lodgeref3_softmax_1 N N (y0).1 ((y0).2).1 (((y0).2).2).1 ((((y0).2).2).2).1 (((((y0).2).2).2).2).1 ((((((y0).2).2).2).2).2).1 (0 : Int) (0 : Int)) fun y1 =>
            cond (decide ((((((y1).2).2).2).2).1 = (0 : Int)))
              (
              some ((-(128 : Int)), ()))
              (
              cond (decide ((0 : Int) ≤ (y1).1))
                (
                cond (decide ((Int.toNat (y1).1) < (List.length ((((y1).2).1).1).2)))
                  (
                  cond (decide ((0 : Int) ≤ (wi64 (((((y1).2).2).2).1 - (List.getD ((((y1).2).1).1).2 (Int.toNat (y1).1) (0 : Int))))))
                    (
                    cond (decide ((Int.toNat (wi64 (((((y1).2).2).2).1 - (List.getD ((((y1).2).1).1).2 (Int.toNat (y1).1) (0 : Int))))) < (List.length (((((y1).2).2).1).1).2)))
                      (
                      cond (decide (@Ne Int (((((y1).2).2).2).2).1 (0 : Int)))
                        (
                        some ((wi64 ((wi64 (Int.tdiv (wi64 ((wi64 ((255 : Int) * (Go.Eng.imax (0 : Int) (List.getD (((((y1).2).2).1).1).2 (Int.toNat (wi64 (((((y1).2).2).2).1 - (List.getD ((((y1).2).1).1).2 (Int.toNat (y1).1) (0 : Int))))) (0 : Int))))) + (wi64 (Int.tdiv (((((y1).2).2).2).2).1 (2 : Int))))) (((((y1).2).2).2).2).1)) - (128 : Int))), ()))
                        (
                        none))
                      (
                      none))
                    (
                    none))
                  (
                  none))
                (
                none)))
            (
            none))
          (
          none))
        (
        none))
      (
      none))
    (
    none)

abbrev c_lodgeref3_softmax (N : Nat) : CallSpec := ⟨69, ps_lodgeref3_softmax, rs_lodgeref3_softmax, fun x => F_lodgeref3_softmax N x.1 x.2.1 x.2.2.1⟩
abbrev l_lodgeref3_softmax_1 (N : Nat) : LoopSpec := ⟨1, h_lodgeref3_softmax_1, e_lodgeref3_softmax_1, fun x => g_lodgeref3_softmax_1 N N x.1 x.2.1 x.2.2.1 x.2.2.2.1 x.2.2.2.2.1 x.2.2.2.2.2.1 x.2.2.2.2.2.2.1 x.2.2.2.2.2.2.2.1⟩
abbrev l_lodgeref3_softmax_0 (N : Nat) : LoopSpec := ⟨0, h_lodgeref3_softmax_0, e_lodgeref3_softmax_0, fun x => g_lodgeref3_softmax_0 N N x.1 x.2.1 x.2.2.1 x.2.2.2.1 x.2.2.2.2.1 x.2.2.2.2.2.1 x.2.2.2.2.2.2.1⟩

theorem cs_lodgeref3_softmax_ok (S : Nat → Addr) (N : Nat) : CallsOK Go.Proofs.Tryz.prog E S (cs_lodgeref3_softmax N) :=
  .nil
noncomputable abbrev b_lodgeref3_softmax_1 : Code := (loopsOf b_lodgeref3_softmax).getD 1 .skip
theorem g_lodgeref3_softmax_1_ok (S : Nat → Addr) (N : Nat) : ∀ n x y, (fun (x : Val (slotsTy h_lodgeref3_softmax_1)) => g_lodgeref3_softmax_1 N n x.1 x.2.1 x.2.2.1 x.2.2.2.1 x.2.2.2.2.1 x.2.2.2.2.2.1 x.2.2.2.2.2.2.1 x.2.2.2.2.2.2.2.1) x = some y → LoopCon Go.Proofs.Tryz.prog E S b_lodgeref3_softmax_1 (encSlots h_lodgeref3_softmax_1 x) (encEx e_lodgeref3_softmax_1 y).1 (encEx e_lodgeref3_softmax_1 y).2 :=
  loop_spec E_ok mixed (cs_lodgeref3_softmax_ok S N) (all := loopsOf b_lodgeref3_softmax) (ls := []) (.nil) (i := 1) (by kernel_rfl) (inner_of (by kernel_rfl)) (head := h_lodgeref3_softmax_1) (ex := e_lodgeref3_softmax_1) (fun n (x : Val (slotsTy h_lodgeref3_softmax_1)) => g_lodgeref3_softmax_1 N n x.1 x.2.1 x.2.2.1 x.2.2.2.1 x.2.2.2.2.1 x.2.2.2.2.2.1 x.2.2.2.2.2.2.1 x.2.2.2.2.2.2.2.1) (fun _ => rfl) (fun n x => by kernel_rfl)
noncomputable abbrev b_lodgeref3_softmax_0 : Code := (loopsOf b_lodgeref3_softmax).getD 0 .skip
theorem g_lodgeref3_softmax_0_ok (S : Nat → Addr) (N : Nat) : ∀ n x y, (fun (x : Val (slotsTy h_lodgeref3_softmax_0)) => g_lodgeref3_softmax_0 N n x.1 x.2.1 x.2.2.1 x.2.2.2.1 x.2.2.2.2.1 x.2.2.2.2.2.1 x.2.2.2.2.2.2.1) x = some y → LoopCon Go.Proofs.Tryz.prog E S b_lodgeref3_softmax_0 (encSlots h_lodgeref3_softmax_0 x) (encEx e_lodgeref3_softmax_0 y).1 (encEx e_lodgeref3_softmax_0 y).2 :=
  loop_spec E_ok mixed (cs_lodgeref3_softmax_ok S N) (all := loopsOf b_lodgeref3_softmax) (ls := []) (.nil) (i := 0) (by kernel_rfl) (inner_of (by kernel_rfl)) (head := h_lodgeref3_softmax_0) (ex := e_lodgeref3_softmax_0) (fun n (x : Val (slotsTy h_lodgeref3_softmax_0)) => g_lodgeref3_softmax_0 N n x.1 x.2.1 x.2.2.1 x.2.2.2.1 x.2.2.2.2.1 x.2.2.2.2.2.1 x.2.2.2.2.2.2.1) (fun _ => rfl) (fun n x => by kernel_rfl)
theorem F_lodgeref3_softmax_ok (S : Nat → Addr) (N : Nat) : ∀ x y, (c_lodgeref3_softmax N).g x = some y → FCon Go.Proofs.Tryz.prog E S 69 ps_lodgeref3_softmax rs_lodgeref3_softmax x y := by
  intro x y h
  exact fun_spec E_ok mixed (cs_lodgeref3_softmax_ok S N) (f := 69) (fi := ⟨b_lodgeref3_softmax, 91, Go.Proofs.Tryz.f69.results.toList⟩) (by kernel_rfl) (ls := [l_lodgeref3_softmax_1 N, l_lodgeref3_softmax_0 N]) (.cons (by kernel_rfl) (g_lodgeref3_softmax_1_ok S N N) (.cons (by kernel_rfl) (g_lodgeref3_softmax_0_ok S N N) (.nil))) (by kernel_rfl) (ps := ps_lodgeref3_softmax) (rs := rs_lodgeref3_softmax) (Eq.trans (b := F_lodgeref3_softmax N x.1 x.2.1 x.2.2.1) (by kernel_rfl) h)

/-! lodge/lodgeref3.element -/

abbrev ps_lodgeref3_element : List Ty := [(.int .i64), (.sl (.int .i64)), (.int .i64), (.sl (.st (.pair (.st (.pair (.sl (.int .i64)) .bool)) (.sl (.int .i64))))), (.st (.pair (.sl (.int .i64)) .bool))]
abbrev rs_lodgeref3_element : List Slot := [.data (.int .i64)]
abbrev cs_lodgeref3_element (N : Nat) : List CallSpec := [c_lodgeref3_Wide N, c_lodgeref3_Cut N, c_lodgeref3_Value N, c_lodgeref3_conv N, c_lodgeref3_pool N, c_lodgeref3_softmax N]
noncomputable abbrev b_lodgeref3_element : Code := (Go.Proofs.Tryz.f34.body).getD .skip

abbrev h_lodgeref3_element_1 : List Slot := [.data (.int .i64), .dead, .data (.int .i64), .dead, .dead, .dead, .dead, .dead, .dead, .dead, .dead, .box [.d (.st (.pair (.st (.pair (.sl (.int .i64)) .bool)) (.sl (.int .i64))))], .dead, .dead, .dead, .dead, .dead, .dead, .dead, .data (.int .i64), .data (.int .i64), .data (.int .i64), .data (.int .i64), .dead, .dead, .dead, .dead, .dead, .dead, .dead, .dead, .dead, .dead, .dead, .dead, .dead, .dead, .dead, .dead, .dead, .dead, .dead, .dead, .dead, .dead, .dead, .dead, .dead, .dead, .dead, .dead, .dead, .dead, .dead, .dead, .dead, .dead, .dead, .dead, .dead, .dead, .dead, .dead, .dead, .dead, .dead, .dead, .dead, .dead, .dead, .dead, .dead, .dead, .dead, .dead, .dead, .dead, .dead, .dead, .dead, .dead, .dead, .dead, .dead, .dead, .dead, .dead, .dead, .dead, .dead, .dead, .dead, .dead, .dead, .dead, .dead, .dead, .dead, .dead, .dead, .dead, .dead, .dead, .dead, .dead, .dead, .dead, .dead, .dead, .dead, .dead, .dead, .dead, .dead, .dead, .dead, .dead, .dead, .dead, .dead, .dead, .dead, .dead, .dead, .dead, .dead, .dead, .dead, .dead, .dead, .dead, .dead, .dead, .dead, .dead, .dead, .dead, .dead, .dead, .dead, .dead, .dead, .dead, .dead, .dead, .dead, .dead, .dead, .dead, .dead, .dead, .dead, .dead, .dead, .dead, .dead, .dead, .dead, .dead, .dead, .dead, .dead, .dead, .dead, .dead, .dead, .dead, .dead, .dead, .dead, .dead, .dead, .dead, .dead, .dead, .dead, .dead, .dead, .dead, .dead, .dead, .dead, .dead, .dead, .dead, .dead, .dead, .dead, .dead, .dead, .dead, .dead, .dead, .dead, .dead, .dead, .dead, .dead, .dead, .dead, .dead, .dead, .dead, .dead, .dead, .dead, .dead, .dead, .dead, .dead, .dead, .dead, .dead, .dead, .dead, .dead, .dead, .dead, .dead, .dead, .dead, .dead, .dead, .dead, .dead, .dead, .dead, .dead, .dead, .dead, .dead, .dead, .dead, .dead, .dead, .dead, .dead, .dead, .dead, .dead, .dead, .dead, .dead, .dead, .dead, .dead, .dead]
abbrev e_lodgeref3_element_1 : List (AX × List Slot) := [(AX.exit 3, [.data (.int .i64), .dead, .dead, .dead, .dead, .dead, .dead, .dead, .dead, .dead, .dead, .dead, .dead, .dead, .dead, .dead, .dead, .dead, .dead, .dead, .data (.int .i64), .data (.int .i64), .dead, .dead, .dead, .dead, .dead, .dead, .dead, .dead, .dead, .dead, .dead, .dead, .dead, .dead, .dead, .dead, .dead, .dead, .dead, .dead, .dead, .dead, .dead, .dead, .dead, .dead, .dead, .dead, .dead, .dead, .dead, .dead, .dead, .dead, .dead, .dead, .dead, .dead, .dead, .dead, .dead, .dead, .dead, .dead, .dead, .dead, .dead, .dead, .dead, .dead, .dead, .dead, .dead, .dead, .dead, .dead, .dead, .dead, .dead, .dead, .dead, .dead, .dead, .dead, .dead, .dead, .dead, .dead, .dead, .dead, .dead, .dead, .dead, .dead, .dead, .dead, .dead, .dead, .dead, .dead, .dead, .dead, .dead, .dead, .dead, .dead, .dead, .dead, .dead, .dead, .dead, .dead, .dead, .dead, .dead, .dead, .dead, .dead, .dead, .dead, .dead, .dead, .dead, .dead, .dead, .dead, .dead, .dead, .dead, .dead, .dead, .dead, .dead, .dead, .dead, .dead, .dead, .dead, .dead, .dead, .dead, .dead, .dead, .dead, .dead, .dead, .dead, .dead, .dead, .dead, .dead, .dead, .dead, .dead, .dead, .dead, .dead, .dead, .dead, .dead, .dead, .dead, .dead, .dead, .dead, .dead, .dead, .dead, .dead, .dead, .dead, .dead, .dead, .dead, .dead, .dead, .dead, .dead, .dead, .dead, .dead, .dead, .dead, .dead, .dead, .dead, .dead, .dead, .dead, .dead, .dead, .dead, .dead, .dead, .dead, .dead, .dead, .dead, .dead, .dead, .dead, .dead, .dead, .dead, .dead, .dead, .dead, .dead, .dead, .dead, .dead, .dead, .dead, .dead, .dead, .dead, .dead, .dead, .dead, .dead, .dead, .dead, .dead, .dead, .dead, .dead, .dead, .dead, .dead, .dead, .dead, .dead, .dead, .dead, .dead, .dead, .dead, .dead, .dead, .dead, .dead, .dead, .dead, .dead, .dead])]
def g_lodgeref3_element_1 (N : Nat) : Nat → Int → Int → (((List Int × Bool) × List Int) × Unit) → Int → Int → Int → Int → Option (Int × (Int × (Int × Unit)))
  | 0, _, _, _, _, _, _, _ => none
  | n + 1, op_0, i_2, a_11, n_19, best_20, s_21, j_22 =>
    cond (decide (j_22 < n_19))
      (
      cond (decide ((0 : Int) ≤ (wi64 ((wi64 (i_2 * n_19)) + j_22))))
        (
        cond (decide ((Int.toNat (wi64 ((wi64 (i_2 * n_19)) + j_22))) < (List.length ((a_11).1).2)))
          (
          cond (decide ((0 : Int) ≤ (wi64 ((wi64 (i_2 * n_19)) + best_20))))
            (
            cond (decide ((Int.toNat (wi64 ((wi64 (i_2 * n_19)) + best_20))) < (List.length ((a_11).1).2)))
              (
              cond (decide ((List.getD ((a_11).1).2 (Int.toNat (wi64 ((wi64 (i_2 * n_19)) + best_20))) (0 : Int)) < (List.getD ((a_11).1).2 (Int.toNat (wi64 ((wi64 (i_2 * n_19)) + j_22))) (0 : Int))))
                (
                (g_lodgeref3_element_1 N n op_0 i_2 a_11 n_19 j_22 (wi64 (s_21 + (List.getD ((a_11).1).2 (Int.toNat (wi64 ((wi64 (i_2 * n_19)) + j_22))) (0 : Int)))) (wi64 (j_22 + (1 : Int)))))
                (
                (g_lodgeref3_element_1 N n op_0 i_2 a_11 n_19 best_20 (wi64 (s_21 + (List.getD ((a_11).1).2 (Int.toNat (wi64 ((wi64 (i_2 * n_19)) + j_22))) (0 : Int)))) (wi64 (j_22 + (1 : Int))))))
              (
              none))
            (
            none))
          (
          none))
        (
        none))
      (
      some (op_0, (best_20, (s_21, ()))))

abbrev h_lodgeref3_element_0 : List Slot := [.dead, .data (.sl (.int .i64)), .data (.int .i64), .data (.sl (.st (.pair (.st (.pair (.sl (.int .i64)) .bool)) (.sl (.int .i64))))), .dead, .dead, .dead, .dead, .dead, .dead, .dead, .box [.d (.st (.pair (.st (.pair (.sl (.int .i64)) .bool)) (.sl (.int .i64))))], .dead, .data (.int .i64), .data (.int .i64), .data (.int .i64), .data (.int .i64), .dead, .dead, .dead, .dead, .dead, .dead, .dead, .dead, .dead, .dead, .dead, .dead, .dead, .dead, .dead, .dead, .dead, .dead, .dead, .dead, .dead, .dead, .dead, .dead, .dead, .dead, .dead, .dead, .dead, .dead, .dead, .dead, .dead, .dead, .dead, .dead, .dead, .dead, .dead, .dead, .dead, .dead, .dead, .dead, .dead, .dead, .dead, .dead, .dead, .dead, .dead, .dead, .dead, .dead, .dead, .dead, .dead, .dead, .dead, .dead, .dead, .dead, .dead, .dead, .dead, .dead, .dead, .dead, .dead, .dead, .dead, .dead, .dead, .dead, .dead, .dead, .dead, .dead, .dead, .dead, .dead, .dead, .dead, .dead, .dead, .dead, .dead, .dead, .dead, .dead, .dead, .dead, .dead, .dead, .dead, .dead, .dead, .dead, .dead, .dead, .dead, .dead, .dead, .dead, .dead, .dead, .dead, .dead, .dead, .dead, .dead, .dead, .dead, .dead, .dead, .dead, .dead, .dead, .dead, .dead, .dead, .dead, .dead, .dead, .dead, .dead, .dead, .dead, .dead, .dead, .dead, .dead, .dead, .dead, .dead, .dead, .dead, .dead, .dead, .dead, .dead, .dead, .dead, .dead, .dead, .dead, .dead, .dead, .dead, .dead, .dead, .dead, .dead, .dead, .dead, .dead, .dead, .dead, .dead, .dead, .dead, .dead, .dead, .dead, .dead, .dead, .dead, .dead, .dead, .dead, .dead, .dead, .dead, .dead, .dead, .dead, .dead, .dead, .dead, .dead, .dead, .dead, .dead, .dead, .dead, .dead, .dead, .dead, .dead, .dead, .dead, .dead, .dead, .dead, .dead, .dead, .dead, .dead, .dead, .dead, .dead, .dead, .dead, .dead, .dead, .dead, .dead, .dead, .dead, .dead, .dead, .dead, .dead, .dead, .dead, .dead, .dead, .dead, .dead, .dead, .dead, .dead, .dead, .dead, .dead, .dead, .dead, .dead, .dead, .dead]
abbrev e_lodgeref3_element_0 : List (AX × List Slot) := [(AX.exit 1, [.dead, .dead, .dead, .dead, .dead, .dead, .dead, .dead, .dead, .dead, .dead, .dead, .dead, .dead, .dead, .data (.int .i64), .dead, .dead, .dead, .dead, .dead, .dead, .dead, .dead, .dead, .dead, .dead, .dead, .dead, .dead, .dead, .dead, .dead, .dead, .dead, .dead, .dead, .dead, .dead, .dead, .dead, .dead, .dead, .dead, .dead, .dead, .dead, .dead, .dead, .dead, .dead, .dead, .dead, .dead, .dead, .dead, .dead, .dead, .dead, .dead, .dead, .dead, .dead, .dead, .dead, .dead, .dead, .dead, .dead, .dead, .dead, .dead, .dead, .dead, .dead, .dead, .dead, .dead, .dead, .dead, .dead, .dead, .dead, .dead, .dead, .dead, .dead, .dead, .dead, .dead, .dead, .dead, .dead, .dead, .dead, .dead, .dead, .dead, .dead, .dead, .dead, .dead, .dead, .dead, .dead, .dead, .dead, .dead, .dead, .dead, .dead, .dead, .dead, .dead, .dead, .dead, .dead, .dead, .dead, .dead, .dead, .dead, .dead, .dead, .dead, .dead, .dead, .dead, .dead, .dead, .dead, .dead, .dead, .dead, .dead, .dead, .dead, .dead, .dead, .dead, .dead, .dead, .dead, .dead, .dead, .dead, .dead, .dead, .dead, .dead, .dead, .dead, .dead, .dead, .dead, .dead, .dead, .dead, .dead, .dead, .dead, .dead, .dead, .dead, .dead, .dead, .dead, .dead, .dead, .dead, .dead, .dead, .dead, .dead, .dead, .dead, .dead, .dead, .dead, .dead, .dead, .dead, .dead, .dead, .dead, .dead, .dead, .dead, .dead, .dead, .dead, .dead, .dead, .dead, .dead, .dead, .dead, .dead, .dead, .dead, .dead, .dead, .dead, .dead, .dead, .dead, .dead, .dead, .dead, .dead, .dead, .dead, .dead, .dead, .dead, .dead, .dead, .dead, .dead, .dead, .dead, .dead, .dead, .dead, .dead, .dead, .dead, .dead, .dead, .dead, .dead, .dead, .dead, .dead, .dead, .dead, .dead, .dead, .dead, .dead, .dead, .dead, .dead, .dead, .dead, .dead, .dead])]
def g_lodgeref3_element_0 (N : Nat) : Nat → List Int → Int → List (((List Int × Bool) × List Int)) → (((List Int × Bool) × List Int) × Unit) → Int → Int → Int → Int → Option (Int × Unit)
  | 0, _, _, _, _, _, _, _, _ => none
  | n + 1, args_1, i_2, ins_3, a_11, k_13, n_14, s_15, j_16 =>
    cond (decide (j_16 < k_13))
      (
      cond (decide (@Ne Int n_14 (0 : Int)))
        (
        cond (decide ((0 : Int) ≤ (wi64 ((wi64 ((wi64 (Int.tdiv i_2 n_14)) * k_13)) + j_16))))
          (
          cond (decide ((Int.toNat (wi64 ((wi64 ((wi64 (Int.tdiv i_2 n_14)) * k_13)) + j_16))) < (List.length ((a_11).1).2)))
            (
            cond (decide (0 < (List.length args_1)))
              (
              cond (decide (1 < (List.length ins_3)))
                (
                cond (decide (@Ne Int n_14 (0 : Int)))
                  (
                  cond (decide ((0 : Int) ≤ (wi64 ((wi64 (j_16 * n_14)) + (Int.tmod i_2 n_14)))))
                    (
                    cond (decide ((Int.toNat (wi64 ((wi64 (j_16 * n_14)) + (Int.tmod i_2 n_14)))) < (List.length ((List.getD ins_3 1 ((([] : List Int), false), ([] : List Int)))).2)))
                      (
                      cond (decide (1 < (List.length args_1)))
                        (
                        (g_lodgeref3_element_0 N n args_1 i_2 ins_3 a_11 k_13 n_14 (wi64 (s_15 + (wi64 ((wi64 ((List.getD ((a_11).1).2 (Int.toNat (wi64 ((wi64 ((wi64 (Int.tdiv i_2 n_14)) * k_13)) + j_16))) (0 : Int)) - (List.getD args_1 0 (0 : Int)))) * (wi64 ((List.getD ((List.getD ins_3 1 ((([] : List Int), false), ([] : List Int)))).2 (Int.toNat (wi64 ((wi64 (j_16 * n_14)) + (Int.tmod i_2 n_14)))) (0 : Int)) - (List.getD args_1 1 (0 : Int)))))))) (wi64 (j_16 + (1 : Int)))))
                        (
                        none))
                      (
                      none))
                    (
                    none))
                  (
                  none))
                (
                none))
              (
              none))
            (
            none))
          (
          none))
        (
        none))
      (
      some (s_15, ()))

def F_lodgeref3_element (N : Nat) (op_0 : Int) (args_1 : List Int) (i_2 : Int) (ins_3 : List (((List Int × Bool) × List Int))) (d_4 : (List Int × Bool)) : Option (Int × Unit) :=
  cond (decide (0 < (List.length ins_3)))
    (
    cond (decide (op_0 ≤ (11 : Int)))
      (
      cond (decide ((1 : Int) < (Nat.cast (List.length ins_3) : Int)))
        (
        cond (decide (1 < (List.length ins_3)))
          (
          cond (decide ((0 : Int) ≤ i_2))
            (
            cond (decide ((Int.toNat i_2) < (List.length ((List.getD ins_3 1 ((([] : List Int), false), ([] : List Int)))).2)))
              (
              cond (decide ((0 : Int) ≤ i_2))
                (
                cond (decide ((Int.toNat i_2) < (List.length ((List.getD ins_3 0 ((([] : List Int), false), ([] : List Int)))).2)))
                  (
                  Option.bind (F_lodgeref3_Value N op_0 (((List.getD ins_3 0 ((([] : List Int), false), ([] : List Int)))).1).2 (List.getD ((List.getD ins_3 0 ((([] : List Int), false), ([] : List Int)))).2 (Int.toNat i_2) (0 : Int)) (List.getD ((List.getD ins_3 1 ((([] : List Int), false), ([] : List Int)))).2 (Int.toNat i_2) (0 : Int)) args_1) fun y0 =>
                  some y0)
                  (
                  none))
                (
                none))
              (
              none))
            (
            none))
          (
          none))
        (
        cond (decide ((0 : Int) ≤ i_2))
          (
          cond (decide ((Int.toNat i_2) < (List.length ((List.getD ins_3 0 ((([] : List Int), false), ([] : List Int)))).2)))
            (
            Option.bind (F_lodgeref3_Value N op_0 (((List.getD ins_3 0 ((([] : List Int), false), ([] : List Int)))).1).2 (List.getD ((List.getD ins_3 0 ((([] : List Int), false), ([] : List Int)))).2 (Int.toNat i_2) (0 : Int)) (0 : Int) args_1) fun y1 =>
            some y1)
            (
            none))
          (
          none)))
      (
      cond (decide (op_0 = (12 : Int)))
        (
        cond (decide (1 < (List.length (((List.getD ins_3 0 ((([] : List Int), false), ([] : List Int)))).1).1)))
          (
          cond (decide (1 < (List.length ins_3)))
            (
            cond (decide (1 < (List.length (((List.getD ins_3 1 ((([] : List Int), false), ([] : List Int)))).1).1)))
              (
              Option.bind (g_lodgeref3_element_0 N N args_1 i_2 ins_3 ((List.getD ins_3 0 ((([] : List Int), false), ([] : List Int))), ()) (List.getD (((List.getD ins_3 0 ((([] : List Int), false), ([] : List Int)))).1).1 1 (0 : Int)) (List.getD (((List.getD ins_3 1 ((([] : List Int), false), ([] : List Int)))).1).1 1 (0 : Int)) (0 : Int) (0 : Int)) fun y2 =>
              Option.bind (F_lodgeref3_Wide N (y2).1) fun y3 =>
              some y3)
              (
              none))
            (
            none))
          (
          none))
        (
        cond (decide (op_0 = (13 : Int)))
          (
          cond (decide (1 < (List.length ins_3)))
            (
            Option.bind (F_lodgeref3_conv N args_1 i_2 (List.getD ins_3 0 ((([] : List Int), false), ([] : List Int))) (List.getD ins_3 1 ((([] : List Int), false), ([] : List Int))) d_4) fun y4 =>
            some y4)
            (
            none))
          (
          cond (decide (op_0 = (14 : Int)))
            (
            Option.bind (F_lodgeref3_pool N (decide (op_0 = (15 : Int))) args_1 i_2 (List.getD ins_3 0 ((([] : List Int), false), ([] : List Int))) d_4) fun y5 =>
            some y5)
            (
            cond (decide (op_0 = (15 : Int)))
              (
              Option.bind (F_lodgeref3_pool N (decide (op_0 = (15 : Int))) args_1 i_2 (List.getD ins_3 0 ((([] : List Int), false), ([] : List Int))) d_4) fun y6 =>
              some y6)
              (
              cond (decide (op_0 = (16 : Int)))
                (
                cond (decide (1 < (List.length ins_3)))
                  (
                  Option.bind (F_lodgeref3_softmax N i_2 (List.getD ins_3 0 ((([] : List Int), false), ([] : List Int))) (List.getD ins_3 1 ((([] : List Int), false), ([] : List Int)))) fun y7 =>
                  some y7)
                  (
                  none))
                (
                cond (decide (op_0 = (17 : Int)))
                  (
                  cond (decide (1 < (List.length (((List.getD ins_3 0 ((([] : List Int), false), ([] : List Int)))).1).1)))
                    (
                    cond (decide (1 < (List.length ins_3)))
                      (
                      cond (decide (@Ne Int (List.getD (((List.getD ins_3 0 ((([] : List Int), false), ([] : List Int)))).1).1 1 (0 : Int)) (0 : Int)))
                        (
                        cond (decide ((0 : Int) ≤ (wi64 (Int.tdiv i_2 (List.getD (((List.getD ins_3 0 ((([] : List Int), false), ([] : List Int)))).1).1 1 (0 : Int))))))
                          (
                          cond (decide ((Int.toNat (wi64 (Int.tdiv i_2 (List.getD (((List.getD ins_3 0 ((([] : List Int), false), ([] : List Int)))).1).1 1 (0 : Int))))) < (List.length ((List.getD ins_3 1 ((([] : List Int), false), ([] : List Int)))).2)))
                            (
                            cond (decide (0 < (List.length (((List.getD ins_3 0 ((([] : List Int), false), ([] : List Int)))).1).1)))
                              (
                              Option.bind (F_lodgeref3_Cut N (List.getD ((List.getD ins_3 1 ((([] : List Int), false), ([] : List Int)))).2 (Int.toNat (wi64 (Int.tdiv i_2 (List.getD (((List.getD ins_3 0 ((([] : List Int), false), ([] : List Int)))).1).1 1 (0 : Int))))) (0 : Int)) (0 : Int) (wi64 ((List.getD (((List.getD ins_3 0 ((([] : List Int), false), ([] : List Int)))).1).1 0 (0 : Int)) - (1 : Int)))) fun y8 =>
                              cond (decide (@Ne Int (List.getD (((List.getD ins_3 0 ((([] : List Int), false), ([] : List Int)))).1).1 1 (0 : Int)) (0 : Int)))
                                (
                                cond (decide ((0 : Int) ≤ (wi64 ((wi64 ((y8).1 * (List.getD (((List.getD ins_3 0 ((([] : List Int), false), ([] : List Int)))).1).1 1 (0 : Int)))) + (Int.tmod i_2 (List.getD (((List.getD ins_3 0 ((([] : List Int), false), ([] : List Int)))).1).1 1 (0 : Int)))))))
                                  (
                                  cond (decide ((Int.toNat (wi64 ((wi64 ((y8).1 * (List.getD (((List.getD ins_3 0 ((([] : List Int), false), ([] : List Int)))).1).1 1 (0 : Int)))) + (Int.tmod i_2 (List.getD (((List.getD ins_3 0 ((([] : List Int), false), ([] : List Int)))).1).1 1 (0 : Int)))))) < (List.length ((List.getD ins_3 0 ((([] : List Int), false), ([] : List Int)))).2)))
                                    (
                                    some ((List.getD ((List.getD ins_3 0 ((([] : List Int), false), ([] : List Int)))).2 (Int.toNat (wi64 ((wi64 ((y8).1 * (List.getD (((List.getD ins_3 0 ((([] : List Int), false), ([] : List Int)))).1).1 1 (0 : Int)))) + (Int.tmod i_2 (List.getD (((List.getD ins_3 0 ((([] : List Int), false), ([] : List Int)))).1).1 1 (0 : Int)))))) (0 : Int)), ()))
                                    (
                                    none))
                                  (
                                  none))
                                (
                                none))
                              (
                              none))
                            (
                            none))
                          (
                          none))
                        (
                        none))
                      (
                      none))
                    (
                    none))
                  (
                  cond (decide (op_0 = (19 : Int)))
                    (
                    cond (decide ((0 : Int) ≤ (wi64 ((Nat.cast (List.length (((List.getD ins_3 0 ((([] : List Int), false), ([] : List Int)))).1).1) : Int) - (1 : Int)))))
                      (
                      cond (decide ((Int.toNat (wi64 ((Nat.cast (List.length (((List.getD ins_3 0 ((([] : List Int), false), ([] : List Int)))).1).1) : Int) - (1 : Int)))) < (List.length (((List.getD ins_3 0 ((([] : List Int), false), ([] : List Int)))).1).1)))
                        (
                        Option.bind (g_lodgeref3_element_1 N N op_0 i_2 ((List.getD ins_3 0 ((([] : List Int), false), ([] : List Int))), ()) (List.getD (((List.getD ins_3 0 ((([] : List Int), false), ([] : List Int)))).1).1 (Int.toNat (wi64 ((Nat.cast (List.length (((List.getD ins_3 0 ((([] : List Int), false), ([] : List Int)))).1).1) : Int) - (1 : Int)))) (0 : Int)) (0 : Int) (0 : Int) (0 : Int)) fun y9 =>
                        cond (decide ((y9).1 = (20 : Int)))
                          (
                          Option.bind (F_lodgeref3_Wide N (((y9).2).2).1) fun y10 =>
                          some y10)
                          (
                          some (((y9).2).1, ())))
                        (
                        none))
                      (
                      none))
                    (
                    cond (decide (op_0 = (20 : Int)))
                      (
                      cond (decide ((0 : Int) ≤ (wi64 ((Nat.cast (List.length (((List.getD ins_3 0 ((([] : List Int), false), ([] : List Int)))).1).1) : Int) - (1 : Int)))))
                        (
                        cond (decide ((Int.toNat (wi64 ((Nat.cast (List.length (((List.getD ins_3 0 ((([] : List Int), false), ([] : List Int)))).1).1) : Int) - (1 : Int)))) < (List.length (((List.getD ins_3 0 ((([] : List Int), false), ([] : List Int)))).1).1)))
                          (
                          Option.bind (g_lodgeref3_element_1 N N op_0 i_2 ((List.getD ins_3 0 ((([] : List Int), false), ([] : List Int))), ()) (List.getD (((List.getD ins_3 0 ((([] : List Int), false), ([] : List Int)))).1).1 (Int.toNat (wi64 ((Nat.cast (List.length (((List.getD ins_3 0 ((([] : List Int), false), ([] : List Int)))).1).1) : Int) - (1 : Int)))) (0 : Int)) (0 : Int) (0 : Int) (0 : Int)) fun y11 =>
                          cond (decide ((y11).1 = (20 : Int)))
                            (
                            Option.bind (F_lodgeref3_Wide N (((y11).2).2).1) fun y12 =>
                            some y12)
                            (
                            some (((y11).2).1, ())))
                          (
                          none))
                        (
                        none))
                      (
                      cond (decide (op_0 = (21 : Int)))
                        (
                        cond (decide (0 < (List.length (((List.getD ins_3 0 ((([] : List Int), false), ([] : List Int)))).1).1)))
                          (
                          cond (decide (@Ne Int (List.getD (((List.getD ins_3 0 ((([] : List Int), false), ([] : List Int)))).1).1 0 (0 : Int)) (0 : Int)))
                            (
                            cond (decide (1 < (List.length (((List.getD ins_3 0 ((([] : List Int), false), ([] : List Int)))).1).1)))
                              (
                              cond (decide (@Ne Int (List.getD (((List.getD ins_3 0 ((([] : List Int), false), ([] : List Int)))).1).1 0 (0 : Int)) (0 : Int)))
                                (
                                cond (decide ((0 : Int) ≤ (wi64 ((wi64 ((Int.tmod i_2 (List.getD (((List.getD ins_3 0 ((([] : List Int), false), ([] : List Int)))).1).1 0 (0 : Int))) * (List.getD (((List.getD ins_3 0 ((([] : List Int), false), ([] : List Int)))).1).1 1 (0 : Int)))) + (wi64 (Int.tdiv i_2 (List.getD (((List.getD ins_3 0 ((([] : List Int), false), ([] : List Int)))).1).1 0 (0 : Int))))))))
                                  (
                                  cond (decide ((Int.toNat (wi64 ((wi64 ((Int.tmod i_2 (List.getD (((List.getD ins_3 0 ((([] : List Int), false), ([] : List Int)))).1).1 0 (0 : Int))) * (List.getD (((List.getD ins_3 0 ((([] : List Int), false), ([] : List Int)))).1).1 1 (0 : Int)))) + (wi64 (Int.tdiv i_2 (List.getD (((List.getD ins_3 0 ((([] : List Int), false), ([] : List Int)))).1).1 0 (0 : Int))))))) < (List.length ((List.getD ins_3 0 ((([] : List Int), false), ([] : List Int)))).2)))
                                    (
                                    some ((List.getD ((List.getD ins_3 0 ((([] : List Int), false), ([] : List Int)))).2 (Int.toNat (wi64 ((wi64 ((Int.tmod i_2 (List.getD (((List.getD ins_3 0 ((([] : List Int), false), ([] : List Int)))).1).1 0 (0 : Int))) * (List.getD (((List.getD ins_3 0 ((([] : List Int), false), ([] : List Int)))).1).1 1 (0 : Int)))) + (wi64 (Int.tdiv i_2 (List.getD (((List.getD ins_3 0 ((([] : List Int), false), ([] : List Int)))).1).1 0 (0 : Int))))))) (0 : Int)), ()))
                                    (
                                    none))
                                  (
                                  none))
                                (
                                none))
                              (
                              none))
                            (
                            none))
                          (
                          none))
                        (
                        cond (decide ((0 : Int) ≤ i_2))
                          (
                          cond (decide ((Int.toNat i_2) < (List.length ((List.getD ins_3 0 ((([] : List Int), false), ([] : List Int)))).2)))
                            (
                            some ((List.getD ((List.getD ins_3 0 ((([] : List Int), false), ([] : List Int)))).2 (Int.toNat i_2) (0 : Int)), ()))
                            (
                            none))
                          (
                          none))))))))))))
    (
    none)

abbrev c_lodgeref3_element (N : Nat) : CallSpec := ⟨34, ps_lodgeref3_element, rs_lodgeref3_element, fun x => F_lodgeref3_element N x.1 x.2.1 x.2.2.1 x.2.2.2.1 x.2.2.2.2.1⟩
abbrev l_lodgeref3_element_1 (N : Nat) : LoopSpec := ⟨1, h_lodgeref3_element_1, e_lodgeref3_element_1, fun x => g_lodgeref3_element_1 N N x.1 x.2.1 x.2.2.1 x.2.2.2.1 x.2.2.2.2.1 x.2.2.2.2.2.1 x.2.2.2.2.2.2.1⟩
abbrev l_lodgeref3_element_0 (N : Nat) : LoopSpec := ⟨0, h_lodgeref3_element_0, e_lodgeref3_element_0, fun x => g_lodgeref3_element_0 N N x.1 x.2.1 x.2.2.1 x.2.2.2.1 x.2.2.2.2.1 x.2.2.2.2.2.1 x.2.2.2.2.2.2.1 x.2.2.2.2.2.2.2.1⟩

theorem cs_lodgeref3_element_ok (S : Nat → Addr) (N : Nat) : CallsOK Go.Proofs.Tryz.prog E S (cs_lodgeref3_element N) :=
  .cons (F_lodgeref3_Wide_ok S N) (.cons (F_lodgeref3_Cut_ok S N) (.cons (F_lodgeref3_Value_ok S N) (.cons (F_lodgeref3_conv_ok S N) (.cons (F_lodgeref3_pool_ok S N) (.cons (F_lodgeref3_softmax_ok S N) (.nil))))))
noncomputable abbrev b_lodgeref3_element_1 : Code := (loopsOf b_lodgeref3_element).getD 1 .skip
theorem g_lodgeref3_element_1_ok (S : Nat → Addr) (N : Nat) : ∀ n x y, (fun (x : Val (slotsTy h_lodgeref3_element_1)) => g_lodgeref3_element_1 N n x.1 x.2.1 x.2.2.1 x.2.2.2.1 x.2.2.2.2.1 x.2.2.2.2.2.1 x.2.2.2.2.2.2.1) x = some y → LoopCon Go.Proofs.Tryz.prog E S b_lodgeref3_element_1 (encSlots h_lodgeref3_element_1 x) (encEx e_lodgeref3_element_1 y).1 (encEx e_lodgeref3_element_1 y).2 :=
  loop_spec E_ok mixed (cs_lodgeref3_element_ok S N) (all := loopsOf b_lodgeref3_element) (ls := []) (.nil) (i := 1) (by kernel_rfl) (inner_of (by kernel_rfl)) (head := h_lodgeref3_element_1) (ex := e_lodgeref3_element_1) (fun n (x : Val (slotsTy h_lodgeref3_element_1)) => g_lodgeref3_element_1 N n x.1 x.2.1 x.2.2.1 x.2.2.2.1 x.2.2.2.2.1 x.2.2.2.2.2.1 x.2.2.2.2.2.2.1) (fun _ => rfl) (fun n x => by kernel_rfl)
noncomputable abbrev b_lodgeref3_element_0 : Code := (loopsOf b_lodgeref3_element).getD 0 .skip
theorem g_lodgeref3_element_0_ok (S : Nat → Addr) (N : Nat) : ∀ n x y, (fun (x : Val (slotsTy h_lodgeref3_element_0)) => g_lodgeref3_element_0 N n x.1 x.2.1 x.2.2.1 x.2.2.2.1 x.2.2.2.2.1 x.2.2.2.2.2.1 x.2.2.2.2.2.2.1 x.2.2.2.2.2.2.2.1) x = some y → LoopCon Go.Proofs.Tryz.prog E S b_lodgeref3_element_0 (encSlots h_lodgeref3_element_0 x) (encEx e_lodgeref3_element_0 y).1 (encEx e_lodgeref3_element_0 y).2 :=
  loop_spec E_ok mixed (cs_lodgeref3_element_ok S N) (all := loopsOf b_lodgeref3_element) (ls := []) (.nil) (i := 0) (by kernel_rfl) (inner_of (by kernel_rfl)) (head := h_lodgeref3_element_0) (ex := e_lodgeref3_element_0) (fun n (x : Val (slotsTy h_lodgeref3_element_0)) => g_lodgeref3_element_0 N n x.1 x.2.1 x.2.2.1 x.2.2.2.1 x.2.2.2.2.1 x.2.2.2.2.2.1 x.2.2.2.2.2.2.1 x.2.2.2.2.2.2.2.1) (fun _ => rfl) (fun n x => by kernel_rfl)
theorem F_lodgeref3_element_ok (S : Nat → Addr) (N : Nat) : ∀ x y, (c_lodgeref3_element N).g x = some y → FCon Go.Proofs.Tryz.prog E S 34 ps_lodgeref3_element rs_lodgeref3_element x y := by
  intro x y h
  exact fun_spec E_ok mixed (cs_lodgeref3_element_ok S N) (f := 34) (fi := ⟨b_lodgeref3_element, 247, Go.Proofs.Tryz.f34.results.toList⟩) (by kernel_rfl) (ls := [l_lodgeref3_element_1 N, l_lodgeref3_element_0 N]) (.cons (by kernel_rfl) (g_lodgeref3_element_1_ok S N N) (.cons (by kernel_rfl) (g_lodgeref3_element_0_ok S N N) (.nil))) (by kernel_rfl) (ps := ps_lodgeref3_element) (rs := rs_lodgeref3_element) (Eq.trans (b := F_lodgeref3_element N x.1 x.2.1 x.2.2.1 x.2.2.2.1 x.2.2.2.2.1) (by kernel_rfl) h)


end Go.Proofs.YtnblnlanicpagaaGreatDoor.Lg
