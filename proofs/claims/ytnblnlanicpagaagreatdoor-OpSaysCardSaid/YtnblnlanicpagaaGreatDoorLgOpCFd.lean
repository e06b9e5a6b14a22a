/-
  The functions of the seat's program, as plain functions.
-/
import Derived.Test.YtnblnlanicpagaaGreatDoorLgOpCFc
namespace Go.Proofs.YtnblnlanicpagaaGreatDoor.Lg
open Go Go.Eng Go.Proofs
set_option maxRecDepth 100000

/-! lodge/lodgeref3.Result -/

abbrev ps_lodgeref3_Result : List Ty := [(.int .i64), (.sl (.int .i64)), (.sl (.st (.pair (.sl (.int .i64)) .bool)))]
abbrev rs_lodgeref3_Result : List Slot := [.ag [.sl (.int .i64), .d .bool], .data (.int .i64)]
abbrev cs_lodgeref3_Result (N : Nat) : List CallSpec := [c_lodgeref3_Known N, c_lodgeref3_ValidDesc N, c_lodgeref_Ints N, c_lodgeref3_ElemResult N, c_lodgeref3_Ins N, c_lodgeref3_Args N, c_lodgeref3_seen N, c_lodgeref3_MatResult N, c_lodgeref3_ConvResult N, c_lodgeref3_PoolResult N, c_lodgeref3_SoftResult N, c_lodgeref3_Elems N]
noncomputable abbrev b_lodgeref3_Result : Code := (Go.Proofs.Tryz.f23.body).getD .skip

abbrev j_lodgeref3_Result : Joins := [(19, [(AX.normal, [.data (.int .i64), .data (.sl (.int .i64)), .data (.sl (.st (.pair (.sl (.int .i64)) .bool))), .dead, .dead, .dead, .box [.sl (.int .i64), .d .bool], .dead, .dead, .dead, .dead, .dead, .dead, .dead, .dead, .dead, .dead, .dead, .dead, .dead, .dead, .dead, .dead, .dead, .dead, .dead, .dead, .dead, .dead, .dead, .dead, .dead, .dead, .dead, .dead, .dead, .dead, .dead, .dead, .dead, .dead, .dead, .dead, .dead, .dead, .dead, .dead, .dead, .dead, .dead, .dead, .dead, .dead, .dead, .dead, .dead, .dead, .dead, .dead, .dead, .dead, .dead, .dead, .dead, .dead, .dead, .dead, .dead, .dead, .dead, .dead, .dead, .dead, .dead, .dead, .dead, .dead, .dead, .dead, .dead, .data .bool, .dead, .dead, .dead, .dead, .dead, .dead, .dead, .dead, .dead, .dead, .dead, .dead, .dead, .dead, .dead, .dead, .dead, .dead, .dead, .dead, .dead, .dead, .dead, .dead, .dead, .dead, .dead, .dead, .dead, .dead, .dead, .dead, .dead, .dead, .dead, .dead, .dead, .dead, .dead, .dead, .dead, .dead, .dead, .dead, .dead, .dead, .dead, .dead, .dead, .dead, .dead, .dead, .dead, .dead, .dead, .dead, .dead, .dead, .dead, .dead])]),
  (16, [(AX.normal, [.data (.int .i64), .data (.sl (.int .i64)), .data (.sl (.st (.pair (.sl (.int .i64)) .bool))), .dead, .dead, .dead, .box [.sl (.int .i64), .d .bool], .dead, .dead, .dead, .dead, .dead, .dead, .dead, .dead, .dead, .dead, .dead, .dead, .dead, .dead, .dead, .dead, .dead, .dead, .dead, .dead, .dead, .dead, .dead, .dead, .dead, .dead, .dead, .dead, .dead, .dead, .dead, .dead, .dead, .data (.int .i64), .dead, .dead, .dead, .dead, .dead, .dead, .dead, .dead, .dead, .dead, .dead, .dead, .dead, .dead, .dead, .dead, .dead, .dead, .dead, .dead, .dead, .dead, .dead, .dead, .dead, .dead, .dead, .dead, .dead, .data .bool, .dead, .dead, .dead, .dead, .dead, .dead, .dead, .dead, .dead, .dead, .dead, .dead, .dead, .dead, .dead, .dead, .dead, .dead, .dead, .dead, .dead, .dead, .dead, .dead, .dead, .dead, .dead, .dead, .dead, .dead, .dead, .dead, .dead, .dead, .dead, .dead, .dead, .dead, .dead, .dead, .dead, .dead, .dead, .dead, .dead, .dead, .dead, .dead, .dead, .dead, .dead, .dead, .dead, .dead, .dead, .dead, .dead, .dead, .dead, .dead, .dead, .dead, .dead, .dead, .dead, .dead, .dead, .dead, .dead, .dead])]),
  (8, [(AX.normal, [.data (.int .i64), .data (.sl (.int .i64)), .data (.sl (.st (.pair (.sl (.int .i64)) .bool))), .dead, .dead, .dead, .box [.sl (.int .i64), .d .bool], .dead, .dead, .dead, .dead, .dead, .dead, .dead, .dead, .dead, .dead, .dead, .dead, .dead, .dead, .dead, .dead, .dead, .dead, .dead, .dead, .dead, .dead, .dead, .dead, .dead, .dead, .dead, .dead, .dead, .dead, .dead, .data .bool, .dead, .dead, .dead, .dead, .dead, .dead, .dead, .dead, .dead, .dead, .dead, .dead, .dead, .dead, .dead, .dead, .dead, .dead, .dead, .dead, .dead, .dead, .dead, .dead, .dead, .dead, .dead, .dead, .dead, .dead, .dead, .dead, .dead, .dead, .dead, .dead, .dead, .dead, .dead, .dead, .dead, .dead, .dead, .dead, .dead, .dead, .dead, .dead, .dead, .dead, .dead, .dead, .dead, .dead, .dead, .dead, .dead, .dead, .dead, .dead, .dead, .dead, .dead, .dead, .dead, .dead, .dead, .dead, .dead, .dead, .dead, .dead, .dead, .dead, .dead, .dead, .dead, .dead, .dead, .dead, .dead, .dead, .dead, .dead, .dead, .dead, .dead, .dead, .dead, .dead, .dead, .dead, .dead, .dead, .dead, .dead, .dead, .dead, .dead, .dead, .dead, .dead])])]
def F_lodgeref3_Result (N : Nat) (op_0 : Int) (args_1 : List Int) (ins_2 : List ((List Int × Bool))) : Option ((List Int × (Bool × Unit)) × (Int × Unit)) :=
  Option.bind (F_lodgeref3_Known N op_0) fun y0 =>
  cond (Bool.not (y0).1)
    (
    some ((([] : List Int), (false, ())), ((103 : Int), ())))
    (
    cond (decide (op_0 ≤ (11 : Int)))
      (
      Option.bind (F_lodgeref3_ElemResult N op_0 args_1 ins_2) fun y1 =>
      cond (decide ((List.length ((y1).1).1) = (List.length ((y1).1).1)))
        (
        some y1)
        (
        none))
      (
      Option.bind (
          Option.bind (F_lodgeref3_Ins N op_0) fun y2 =>
          cond (decide (@Ne Int (Nat.cast (List.length ins_2) : Int) (y2).1))
            (
            some (op_0, (args_1, (ins_2, ((([] : List Int), (false, ())), (true, ()))))))
            (
            cond (decide (@Ne Int op_0 (18 : Int)))
              (
              Option.bind (F_lodgeref3_Args N op_0) fun y3 =>
              some (op_0, (args_1, (ins_2, ((([] : List Int), (false, ())), ((decide (@Ne Int (Nat.cast (List.length args_1) : Int) (y3).1)), ()))))))
              (
              some (op_0, (args_1, (ins_2, ((([] : List Int), (false, ())), (false, ())))))))) fun y4 =>
      cond (((((y4).2).2).2).2).1
        (
        some ((([] : List Int), (false, ())), ((101 : Int), ())))
        (
        cond (decide ((y4).1 = (12 : Int)))
          (
          cond (decide (0 < (List.length ((y4).2).1)))
            (
            cond (decide (1 < (List.length ((y4).2).1)))
              (
              cond (decide (0 < (List.length (((y4).2).2).1)))
                (
                cond (decide (1 < (List.length (((y4).2).2).1)))
                  (
                  Option.bind (F_lodgeref3_MatResult N (List.getD ((y4).2).1 0 (0 : Int)) (List.getD ((y4).2).1 1 (0 : Int)) (List.getD (((y4).2).2).1 0 (([] : List Int), false)) (List.getD (((y4).2).2).1 1 (([] : List Int), false))) fun y5 =>
                  cond (decide ((List.length ((y5).1).1) = (List.length ((y5).1).1)))
                    (
                    some y5)
                    (
                    none))
                  (
                  none))
                (
                none))
              (
              none))
            (
            none))
          (
          cond (decide ((y4).1 = (13 : Int)))
            (
            cond (decide (0 < (List.length (((y4).2).2).1)))
              (
              cond (decide (1 < (List.length (((y4).2).2).1)))
                (
                Option.bind (F_lodgeref3_ConvResult N ((y4).2).1 (List.getD (((y4).2).2).1 0 (([] : List Int), false)) (List.getD (((y4).2).2).1 1 (([] : List Int), false))) fun y6 =>
                cond (decide ((List.length ((y6).1).1) = (List.length ((y6).1).1)))
                  (
                  some y6)
                  (
                  none))
                (
                none))
              (
              none))
            (
            Option.bind (
                cond (decide ((y4).1 = (14 : Int)))
                  (
                  cond (decide ((List.length (((((y4).2).2).2).1).1) = (List.length (((((y4).2).2).2).1).1)))
                    (
                    some ((y4).1, (((y4).2).1, ((((y4).2).2).1, (((((y4).2).2).2).1, ((y4).1, (true, ())))))))
                    (
                    none))
                  (
                  cond (decide ((List.length (((((y4).2).2).2).1).1) = (List.length (((((y4).2).2).2).1).1)))
                    (
                    some ((y4).1, (((y4).2).1, ((((y4).2).2).1, (((((y4).2).2).2).1, ((y4).1, ((decide ((y4).1 = (15 : Int))), ())))))))
                    (
                    none))) fun y7 =>
            cond ((((((y7).2).2).2).2).2).1
              (
              cond (decide (0 < (List.length (((y7).2).2).1)))
                (
                Option.bind (F_lodgeref3_PoolResult N ((y7).2).1 (List.getD (((y7).2).2).1 0 (([] : List Int), false))) fun y8 =>
                cond (decide ((List.length ((y8).1).1) = (List.length ((y8).1).1)))
                  (
                  some y8)
                  (
                  none))
                (
                none))
              (
              Option.bind (
                  cond (decide ((((((y7).2).2).2).2).1 = (16 : Int)))
                    (
                    cond (decide ((List.length (((((y7).2).2).2).1).1) = (List.length (((((y7).2).2).2).1).1)))
                      (
                      some ((y7).1, (((y7).2).1, ((((y7).2).2).1, (((((y7).2).2).2).1, (true, ()))))))
                      (
                      none))
                    (
                    cond (decide ((((((y7).2).2).2).2).1 = (17 : Int)))
                      (
                      cond (decide ((List.length (((((y7).2).2).2).1).1) = (List.length (((((y7).2).2).2).1).1)))
                        (
                        some ((y7).1, (((y7).2).1, ((((y7).2).2).1, (((((y7).2).2).2).1, (true, ()))))))
                        (
                        none))
                      (
                      cond (decide ((((((y7).2).2).2).2).1 = (19 : Int)))
                        (
                        cond (decide ((List.length (((((y7).2).2).2).1).1) = (List.length (((((y7).2).2).2).1).1)))
                          (
                          some ((y7).1, (((y7).2).1, ((((y7).2).2).1, (((((y7).2).2).2).1, (true, ()))))))
                          (
                          none))
                        (
                        cond (decide ((List.length (((((y7).2).2).2).1).1) = (List.length (((((y7).2).2).2).1).1)))
                          (
                          some ((y7).1, (((y7).2).1, ((((y7).2).2).1, (((((y7).2).2).2).1, ((decide ((((((y7).2).2).2).2).1 = (20 : Int))), ()))))))
                          (
                          none))))) fun y9 =>
              cond (((((y9).2).2).2).2).1
                (
                Option.bind (F_lodgeref3_SoftResult N (y9).1 (((y9).2).2).1) fun y10 =>
                cond (decide ((List.length ((y10).1).1) = (List.length ((y10).1).1)))
                  (
                  some y10)
                  (
                  none))
                (
                cond (decide (0 < (List.length (((y9).2).2).1)))
                  (
                  Option.bind (F_lodgeref3_ValidDesc N (List.getD (((y9).2).2).1 0 (([] : List Int), false))) fun y11 =>
                  cond (decide (@Ne Int (y11).1 (0 : Int)))
                    (
                    some ((([] : List Int), (false, ())), y11))
                    (
                    cond (decide ((y9).1 = (21 : Int)))
                      (
                      cond (decide (@Ne Int (Nat.cast (List.length ((List.getD (((y9).2).2).1 0 (([] : List Int), false))).1) : Int) (2 : Int)))
                        (
                        some ((([] : List Int), (false, ())), ((101 : Int), ())))
                        (
                        cond (decide (1 < (List.length ((List.getD (((y9).2).2).1 0 (([] : List Int), false))).1)))
                          (
                          cond (decide (0 < (List.length ((List.getD (((y9).2).2).1 0 (([] : List Int), false))).1)))
                            (
                            Option.bind (F_lodgeref3_seen N (((List.getD ((List.getD (((y9).2).2).1 0 (([] : List Int), false))).1 1 (0 : Int)) :: ((List.getD ((List.getD (((y9).2).2).1 0 (([] : List Int), false))).1 0 (0 : Int)) :: ([] : List Int))), ((List.getD (((y9).2).2).1 0 (([] : List Int), false))).2)) fun y12 =>
                            cond (decide ((List.length ((y12).1).1) = (List.length ((y12).1).1)))
                              (
                              some y12)
                              (
                              none))
                            (
                            none))
                          (
                          none)))
                      (
                      Option.bind (F_lodgeref_Ints N ((y9).2).1) fun y13 =>
                      cond (decide (((0 : Nat) + (List.length (y13).1)) ≤ (List.length (y13).1)))
                        (
                        Option.bind (F_lodgeref3_ValidDesc N ((List.take (List.length (y13).1) (y13).1), ((List.getD (((y9).2).2).1 0 (([] : List Int), false))).2)) fun y14 =>
                        cond (decide (@Ne Int (y14).1 (0 : Int)))
                          (
                          some ((([] : List Int), (false, ())), y14))
                          (
                          cond (decide (((0 : Nat) + (List.length (y13).1)) ≤ (List.length (y13).1)))
                            (
                            Option.bind (F_lodgeref3_Elems N (List.take (List.length (y13).1) (y13).1)) fun y15 =>
                            Option.bind (F_lodgeref3_Elems N ((List.getD (((y9).2).2).1 0 (([] : List Int), false))).1) fun y16 =>
                            cond (decide (@Ne Int (y15).1 (y16).1))
                              (
                              some ((([] : List Int), (false, ())), ((101 : Int), ())))
                              (
                              cond (decide ((List.length (y13).1) = (List.length (y13).1)))
                                (
                                some (((y13).1, (((List.getD (((y9).2).2).1 0 (([] : List Int), false))).2, ())), ((0 : Int), ())))
                                (
                                none)))
                            (
                            none)))
                        (
                        none))))
                  (
                  none))))))))

abbrev c_lodgeref3_Result (N : Nat) : CallSpec := ⟨23, ps_lodgeref3_Result, rs_lodgeref3_Result, fun x => F_lodgeref3_Result N x.1 x.2.1 x.2.2.1⟩

theorem cs_lodgeref3_Result_ok (S : Nat → Addr) (N : Nat) : CallsOK Go.Proofs.Tryz.prog E S (cs_lodgeref3_Result N) :=
  .cons (F_lodgeref3_Known_ok S N) (.cons (F_lodgeref3_ValidDesc_ok S N) (.cons (F_lodgeref_Ints_ok S N) (.cons (F_lodgeref3_ElemResult_ok S N) (.cons (F_lodgeref3_Ins_ok S N) (.cons (F_lodgeref3_Args_ok S N) (.cons (F_lodgeref3_seen_ok S N) (.cons (F_lodgeref3_MatResult_ok S N) (.cons (F_lodgeref3_ConvResult_ok S N) (.cons (F_lodgeref3_PoolResult_ok S N) (.cons (F_lodgeref3_SoftResult_ok S N) (.cons (F_lodgeref3_Elems_ok S N) (.nil))))))))))))
theorem F_lodgeref3_Result_ok (S : Nat → Addr) (N : Nat) : ∀ x y, (c_lodgeref3_Result N).g x = some y → FCon Go.Proofs.Tryz.prog E S 23 ps_lodgeref3_Result rs_lodgeref3_Result x y := by
  intro x y h
  exact fun_specJ E_ok mixed (cs_lodgeref3_Result_ok S N) (f := 23) (fi := ⟨b_lodgeref3_Result, 141, Go.Proofs.Tryz.f23.results.toList⟩) (by kernel_rfl) (ls := []) (.nil) (js := j_lodgeref3_Result) (by kernel_rfl) (ps := ps_lodgeref3_Result) (rs := rs_lodgeref3_Result) (Eq.trans (b := F_lodgeref3_Result N x.1 x.2.1 x.2.2.1) (by kernel_rfl) h)

/-! lodge/lodgeref3.Unit -/

abbrev ps_lodgeref3_Unit : List Ty := [(.int .i64), (.sl (.int .i64)), (.sl (.st (.pair (.sl (.int .i64)) .bool)))]
abbrev rs_lodgeref3_Unit : List Slot := [.data (.int .i64), .data (.int .i64)]
abbrev cs_lodgeref3_Unit (N : Nat) : List CallSpec := [c_lodgeref3_Result N]
noncomputable abbrev b_lodgeref3_Unit : Code := (Go.Proofs.Tryz.f24.body).getD .skip

def F_lodgeref3_Unit (N : Nat) (op_0 : Int) (args_1 : List Int) (ins_2 : List ((List Int × Bool))) : Option (Int × (Int × Unit)) :=
  Option.bind (F_lodgeref3_Result N op_0 args_1 ins_2) fun y0 =>
  cond (decide (@Ne Int ((y0).2).1 (0 : Int)))
    (
    some ((0 : Int), (y0).2))
    (
    cond (decide (0 < (List.length ins_2)))
      (
      cond (decide (op_0 = (10 : Int)))
        (
        some ((2 : Int), ((0 : Int), ())))
        (
        cond (decide (op_0 = (12 : Int)))
          (
          cond (decide (1 < (List.length ((List.getD ins_2 0 (([] : List Int), false))).1)))
            (
            some ((List.getD ((List.getD ins_2 0 (([] : List Int), false))).1 1 (0 : Int)), ((0 : Int), ())))
            (
            none))
          (
          cond (decide (op_0 = (13 : Int)))
            (
            cond (decide (1 < (List.length ins_2)))
              (
              cond (decide (0 < (List.length ((List.getD ins_2 1 (([] : List Int), false))).1)))
                (
                cond (decide (1 < (List.length ((List.getD ins_2 1 (([] : List Int), false))).1)))
                  (
                  cond (decide (2 < (List.length ((List.getD ins_2 1 (([] : List Int), false))).1)))
                    (
                    some ((wi64 ((wi64 ((List.getD ((List.getD ins_2 1 (([] : List Int), false))).1 0 (0 : Int)) * (List.getD ((List.getD ins_2 1 (([] : List Int), false))).1 1 (0 : Int)))) * (List.getD ((List.getD ins_2 1 (([] : List Int), false))).1 2 (0 : Int)))), ((0 : Int), ())))
                    (
                    none))
                  (
                  none))
                (
                none))
              (
              none))
            (
            cond (decide (op_0 = (14 : Int)))
              (
              cond (decide (0 < (List.length args_1)))
                (
                cond (decide (0 < (List.length args_1)))
                  (
                  some ((wi64 ((List.getD args_1 0 (0 : Int)) * (List.getD args_1 0 (0 : Int)))), ((0 : Int), ())))
                  (
                  none))
                (
                none))
              (
              cond (decide (op_0 = (15 : Int)))
                (
                cond (decide (0 < (List.length args_1)))
                  (
                  cond (decide (0 < (List.length args_1)))
                    (
                    some ((wi64 ((List.getD args_1 0 (0 : Int)) * (List.getD args_1 0 (0 : Int)))), ((0 : Int), ())))
                    (
                    none))
                  (
                  none))
                (
                cond (decide (op_0 = (16 : Int)))
                  (
                  cond (decide ((0 : Int) ≤ (wi64 ((Nat.cast (List.length ((List.getD ins_2 0 (([] : List Int), false))).1) : Int) - (1 : Int)))))
                    (
                    cond (decide ((Int.toNat (wi64 ((Nat.cast (List.length ((List.getD ins_2 0 (([] : List Int), false))).1) : Int) - (1 : Int)))) < (List.length ((List.getD ins_2 0 (([] : List Int), false))).1)))
                      (
                      some ((List.getD ((List.getD ins_2 0 (([] : List Int), false))).1 (Int.toNat (wi64 ((Nat.cast (List.length ((List.getD ins_2 0 (([] : List Int), false))).1) : Int) - (1 : Int)))) (0 : Int)), ((0 : Int), ())))
                      (
                      none))
                    (
                    none))
                  (
                  cond (decide (op_0 = (19 : Int)))
                    (
                    cond (decide ((0 : Int) ≤ (wi64 ((Nat.cast (List.length ((List.getD ins_2 0 (([] : List Int), false))).1) : Int) - (1 : Int)))))
                      (
                      cond (decide ((Int.toNat (wi64 ((Nat.cast (List.length ((List.getD ins_2 0 (([] : List Int), false))).1) : Int) - (1 : Int)))) < (List.length ((List.getD ins_2 0 (([] : List Int), false))).1)))
                        (
                        some ((List.getD ((List.getD ins_2 0 (([] : List Int), false))).1 (Int.toNat (wi64 ((Nat.cast (List.length ((List.getD ins_2 0 (([] : List Int), false))).1) : Int) - (1 : Int)))) (0 : Int)), ((0 : Int), ())))
                        (
                        none))
                      (
                      none))
                    (
                    cond (decide (op_0 = (20 : Int)))
                      (
                      cond (decide ((0 : Int) ≤ (wi64 ((Nat.cast (List.length ((List.getD ins_2 0 (([] : List Int), false))).1) : Int) - (1 : Int)))))
                        (
                        cond (decide ((Int.toNat (wi64 ((Nat.cast (List.length ((List.getD ins_2 0 (([] : List Int), false))).1) : Int) - (1 : Int)))) < (List.length ((List.getD ins_2 0 (([] : List Int), false))).1)))
                          (
                          some ((List.getD ((List.getD ins_2 0 (([] : List Int), false))).1 (Int.toNat (wi64 ((Nat.cast (List.length ((List.getD ins_2 0 (([] : List Int), false))).1) : Int) - (1 : Int)))) (0 : Int)), ((0 : Int), ())))
                          (
                          none))
                        (
                        none))
                      (
                      some ((1 : Int), ((0 : Int), ())))))))))))
      (
      none))

abbrev c_lodgeref3_Unit (N : Nat) : CallSpec := ⟨24, ps_lodgeref3_Unit, rs_lodgeref3_Unit, fun x => F_lodgeref3_Unit N x.1 x.2.1 x.2.2.1⟩

theorem cs_lodgeref3_Unit_ok (S : Nat → Addr) (N : Nat) : CallsOK Go.Proofs.Tryz.prog E S (cs_lodgeref3_Unit N) :=
  .cons (F_lodgeref3_Result_ok S N) (.nil)
theorem F_lodgeref3_Unit_ok (S : Nat → Addr) (N : Nat) : ∀ x y, (c_lodgeref3_Unit N).g x = some y → FCon Go.Proofs.Tryz.prog E S 24 ps_lodgeref3_Unit rs_lodgeref3_Unit x y := by
  intro x y h
  exact fun_spec E_ok mixed (cs_lodgeref3_Unit_ok S N) (f := 24) (fi := ⟨b_lodgeref3_Unit, 71, Go.Proofs.Tryz.f24.results.toList⟩) (by kernel_rfl) (ls := []) (.nil) (by kernel_rfl) (ps := ps_lodgeref3_Unit) (rs := rs_lodgeref3_Unit) (Eq.trans (b := F_lodgeref3_Unit N x.1 x.2.1 x.2.2.1) (by kernel_rfl) h)

/-! lodge/lodgelaw12.light -/

abbrev ps_lodgelaw12_light : List Ty := [(.int .i64), (.sl (.int .i64)), (.sl (.st (.pair (.st (.pair (.sl (.int .i64)) .bool)) (.sl (.int .i64)))))]
abbrev rs_lodgelaw12_light : List Slot := [.data .bool]
abbrev cs_lodgelaw12_light (N : Nat) : List CallSpec := [c_lodgeworld_Tensors N, c_lodgeref3_Elems N, c_lodgeref3_Result N, c_lodgeref3_Unit N]
noncomputable abbrev b_lodgelaw12_light : Code := (Go.Proofs.Tryz.f5.body).getD .skip

abbrev h_lodgelaw12_light_0 : List Slot := [.data (.int .i64), .data (.sl (.int .i64)), .data (.sl (.st (.pair (.st (.pair (.sl (.int .i64)) .bool)) (.sl (.int .i64))))), .dead, .dead, .dead, .dead, .sl (.st (.pair (.sl (.int .i64)) .bool)), .data (.int .i64), .dead, .dead, .dead, .dead, .dead, .dead, .dead, .dead, .dead, .dead, .dead, .dead, .dead, .dead, .dead, .dead, .dead, .dead, .dead, .dead, .dead, .dead, .dead, .dead, .dead, .dead, .dead, .dead, .dead, .dead, .dead, .dead, .dead, .dead, .dead, .dead, .dead, .dead, .dead, .dead, .dead, .dead, .dead, .dead, .dead, .dead, .dead, .dead, .dead, .dead]
abbrev e_lodgelaw12_light_0 : List (AX × List Slot) := [(AX.exit 0, [.data (.int .i64), .data (.sl (.int .i64)), .dead, .dead, .dead, .dead, .dead, .sl (.st (.pair (.sl (.int .i64)) .bool)), .dead, .dead, .dead, .dead, .dead, .dead, .dead, .dead, .dead, .dead, .dead, .dead, .dead, .dead, .dead, .dead, .dead, .dead, .dead, .dead, .dead, .dead, .dead, .dead, .dead, .dead, .dead, .dead, .dead, .dead, .dead, .dead, .dead, .dead, .dead, .dead, .dead, .dead, .dead, .dead, .dead, .dead, .dead, .dead, .dead, .dead, .dead, .dead, .dead, .dead, .dead])]
def g_lodgelaw12_light_0 (N : Nat) : Nat → Int → List Int → List (((List Int × Bool) × List Int)) → List ((List Int × Bool)) → Int → Option (Int × (List Int × (List ((List Int × Bool)) × Unit)))
  | 0, _, _, _, _, _ => none
  | n + 1, o_0, args_1, ins_2, d_7, i_8 =>
    cond (decide (i_8 < (Nat.cast (List.length ins_2) : Int)))
      (
      cond (decide ((0 : Int) ≤ i_8))
        (
        cond (decide ((Int.toNat i_8) < (List.length ins_2)))
          (
          cond (decide (((0 : Nat) + (List.length d_7)) = (List.length d_7)))
            (
            cond (decide ((((List.length d_7) + 1) * (32 + (1 : Nat))) ≤ Go.Eng.most))
              (
              cond (decide (((List.length d_7) + 1) = (List.length ((List.take (List.length d_7) d_7) ++ (((List.getD ins_2 (Int.toNat i_8) ((([] : List Int), false), ([] : List Int)))).1 :: ([] : List ((List Int) × Bool)))))))
                (
                (g_lodgelaw12_light_0 N n o_0 args_1 ins_2 ((List.take (List.length d_7) d_7) ++ (((List.getD ins_2 (Int.toNat i_8) ((([] : List Int), false), ([] : List Int)))).1 :: ([] : List ((List Int) × Bool)))) (wi64 (i_8 + (1 : Int)))))
                (
                none))
              (
              none))
            (
            none))
          (
          none))
        (
        none))
      (
      cond (decide ((List.length d_7) = (List.length d_7)))
        (
        some (o_0, (args_1, (d_7, ()))))
        (
        none))

def F_lodgelaw12_light (N : Nat) (o_0 : Int) (args_1 : List Int) (ins_2 : List (((List Int × Bool) × List Int))) : Option (Bool × Unit) :=
  cond (decide ((10 : Int) < (Nat.cast (List.length args_1) : Int)))
    (
    some (false, ()))
    (
    Option.bind (F_lodgeworld_Tensors N ins_2 (3 : Int) (300 : Int)) fun y0 =>
    cond (Bool.not (y0).1)
      (
      some (false, ()))
      (
      Option.bind (g_lodgelaw12_light_0 N N o_0 args_1 ins_2 ([] : List ((List Int) × Bool)) (0 : Int)) fun y1 =>
      cond (decide (((0 : Nat) + (List.length (((y1).2).2).1)) ≤ (List.length (((y1).2).2).1)))
        (
        Option.bind (F_lodgeref3_Result N (y1).1 ((y1).2).1 (List.take (List.length (((y1).2).2).1) (((y1).2).2).1)) fun y2 =>
        cond (decide (((0 : Nat) + (List.length (((y1).2).2).1)) ≤ (List.length (((y1).2).2).1)))
          (
          Option.bind (F_lodgeref3_Unit N (y1).1 ((y1).2).1 (List.take (List.length (((y1).2).2).1) (((y1).2).2).1)) fun y3 =>
          cond (decide (@Ne Int ((y2).2).1 (0 : Int)))
            (
            some (true, ()))
            (
            cond (decide (((0 : Nat) + (List.length ((y2).1).1)) ≤ (List.length ((y2).1).1)))
              (
              Option.bind (F_lodgeref3_Elems N (List.take (List.length ((y2).1).1) ((y2).1).1)) fun y4 =>
              some ((decide ((wi64 ((y4).1 * (y3).1)) ≤ (100000 : Int))), ()))
              (
              none)))
          (
          none))
        (
        none)))

abbrev c_lodgelaw12_light (N : Nat) : CallSpec := ⟨5, ps_lodgelaw12_light, rs_lodgelaw12_light, fun x => F_lodgelaw12_light N x.1 x.2.1 x.2.2.1⟩
abbrev l_lodgelaw12_light_0 (N : Nat) : LoopSpec := ⟨0, h_lodgelaw12_light_0, e_lodgelaw12_light_0, fun x => g_lodgelaw12_light_0 N N x.1 x.2.1 x.2.2.1 x.2.2.2.1 x.2.2.2.2.1⟩

theorem cs_lodgelaw12_light_ok (S : Nat → Addr) (N : Nat) : CallsOK Go.Proofs.Tryz.prog E S (cs_lodgelaw12_light N) :=
  .cons (F_lodgeworld_Tensors_ok S N) (.cons (F_lodgeref3_Elems_ok S N) (.cons (F_lodgeref3_Result_ok S N) (.cons (F_lodgeref3_Unit_ok S N) (.nil))))
noncomputable abbrev b_lodgelaw12_light_0 : Code := (loopsOf b_lodgelaw12_light).getD 0 .skip
theorem g_lodgelaw12_light_0_ok (S : Nat → Addr) (N : Nat) : ∀ n x y, (fun (x : Val (slotsTy h_lodgelaw12_light_0)) => g_lodgelaw12_light_0 N n x.1 x.2.1 x.2.2.1 x.2.2.2.1 x.2.2.2.2.1) x = some y → LoopCon Go.Proofs.Tryz.prog E S b_lodgelaw12_light_0 (encSlots h_lodgelaw12_light_0 x) (encEx e_lodgelaw12_light_0 y).1 (encEx e_lodgelaw12_light_0 y).2 :=
  loop_spec E_ok mixed (cs_lodgelaw12_light_ok S N) (all := loopsOf b_lodgelaw12_light) (ls := []) (.nil) (i := 0) (by kernel_rfl) (inner_of (by kernel_rfl)) (head := h_lodgelaw12_light_0) (ex := e_lodgelaw12_light_0) (fun n (x : Val (slotsTy h_lodgelaw12_light_0)) => g_lodgelaw12_light_0 N n x.1 x.2.1 x.2.2.1 x.2.2.2.1 x.2.2.2.2.1) (fun _ => rfl) (fun n x => by kernel_rfl)
theorem F_lodgelaw12_light_ok (S : Nat → Addr) (N : Nat) : ∀ x y, (c_lodgelaw12_light N).g x = some y → FCon Go.Proofs.Tryz.prog E S 5 ps_lodgelaw12_light rs_lodgelaw12_light x y := by
  intro x y h
  exact fun_spec E_ok mixed (cs_lodgelaw12_light_ok S N) (f := 5) (fi := ⟨b_lodgelaw12_light, 59, Go.Proofs.Tryz.f5.results.toList⟩) (by kernel_rfl) (ls := [l_lodgelaw12_light_0 N]) (.cons (by kernel_rfl) (g_lodgelaw12_light_0_ok S N N) (.nil)) (by kernel_rfl) (ps := ps_lodgelaw12_light) (rs := rs_lodgelaw12_light) (Eq.trans (b := F_lodgelaw12_light N x.1 x.2.1 x.2.2.1) (by kernel_rfl) h)

/-! lodge/tens.fits -/

abbrev ps_tens_fits : List Ty := [(.int .i64), .bool]
abbrev rs_tens_fits : List Slot := [.data .bool]
abbrev cs_tens_fits (N : Nat) : List CallSpec := []
noncomputable abbrev b_tens_fits : Code := (Go.Proofs.Tryz.f83.body).getD .skip

def F_tens_fits (N : Nat) (n_0 : Int) (wide_1 : Bool) : Option (Bool × Unit) :=
  cond wide_1
    (
    cond (decide ((-(2147483648 : Int)) ≤ n_0))
      (
      some ((decide (n_0 ≤ (2147483647 : Int))), ()))
      (
      some (false, ())))
    (
    cond (decide ((-(128 : Int)) ≤ n_0))
      (
      some ((decide (n_0 ≤ (127 : Int))), ()))
      (
      some (false, ())))

abbrev c_tens_fits (N : Nat) : CallSpec := ⟨83, ps_tens_fits, rs_tens_fits, fun x => F_tens_fits N x.1 x.2.1⟩

theorem cs_tens_fits_ok (S : Nat → Addr) (N : Nat) : CallsOK Go.Proofs.Tryz.prog E S (cs_tens_fits N) :=
  .nil
theorem F_tens_fits_ok (S : Nat → Addr) (N : Nat) : ∀ x y, (c_tens_fits N).g x = some y → FCon Go.Proofs.Tryz.prog E S 83 ps_tens_fits rs_tens_fits x y := by
  intro x y h
  exact fun_spec E_ok mixed (cs_tens_fits_ok S N) (f := 83) (fi := ⟨b_tens_fits, 18, Go.Proofs.Tryz.f83.results.toList⟩) (by kernel_rfl) (ls := []) (.nil) (by kernel_rfl) (ps := ps_tens_fits) (rs := rs_tens_fits) (Eq.trans (b := F_tens_fits N x.1 x.2.1) (by kernel_rfl) h)

/-! lodge/tens.Valid -/

abbrev ps_tens_Valid : List Ty := [(.st (.pair (.st (.pair (.sl (.int .i64)) .bool)) (.sl (.int .i64))))]
abbrev rs_tens_Valid : List Slot := [.data .err]
abbrev cs_tens_Valid (N : Nat) : List CallSpec := [c_shape_Valid N, c_shape_Elems N, c_tens_fits N]
noncomputable abbrev b_tens_Valid : Code := (Go.Proofs.Tryz.f54.body).getD .skip

abbrev h_tens_Valid_0 : List Slot := [.dead, .box [.d (.st (.pair (.st (.pair (.sl (.int .i64)) .bool)) (.sl (.int .i64))))], .dead, .dead, .dead, .dead, .dead, .dead, .dead, .dead, .dead, .dead, .dead, .dead, .dead, .dead, .dead, .dead, .dead, .dead, .dead, .dead, .data (.sl (.int .i64)), .data (.int .i64), .data (.int .i64), .dead, .dead, .dead, .dead, .dead, .dead, .dead, .dead, .dead, .dead, .dead, .dead, .dead, .dead, .dead, .dead]
abbrev e_tens_Valid_0 : List (AX × List Slot) := [(AX.exit 0, [.dead, .dead, .dead, .dead, .dead, .dead, .dead, .dead, .dead, .dead, .dead, .dead, .dead, .dead, .dead, .dead, .dead, .dead, .dead, .dead, .dead, .dead, .dead, .dead, .dead, .dead, .dead, .dead, .dead, .dead, .dead, .dead, .dead, .dead, .dead, .dead, .dead, .dead, .dead, .dead, .dead]), (AX.ret, [.dead, .dead, .data .err, .dead, .dead, .dead, .dead, .dead, .dead, .dead, .dead, .dead, .dead, .dead, .dead, .dead, .dead, .dead, .dead, .dead, .dead, .dead, .dead, .dead, .dead, .dead, .dead, .dead, .dead, .dead, .dead, .dead, .dead, .dead, .dead, .dead, .dead, .dead, .dead, .dead, .dead])]
def g_tens_Valid_0 (N : Nat) : Nat → (((List Int × Bool) × List Int) × Unit) → List Int → Int → Int → Option (Sum Unit (Er × Unit))
  | 0, _, _, _, _ => none
  | n + 1, t_1, t_22, t_23, t_24 =>
    cond (decide (t_24 < t_23))
      (
      cond (decide ((0 : Int) ≤ t_24))
        (
        cond (decide ((Int.toNat t_24) < (List.length t_22)))
          (
          Option.bind (F_tens_fits N (List.getD t_22 (Int.toNat t_24) (0 : Int)) (((t_1).1).1).2) fun y3 =>
          cond (Bool.not (y3).1)
            (
            some (Sum.inr ((Go.Eng.Er.at t_24 ErrRange), ())))
            (
            (g_tens_Valid_0 N n t_1 t_22 t_23 (wi64 (t_24 + (1 : Int))))))
          (
          none))
        (
        none))
      (
      some (Sum.inl ()))

def F_tens_Valid (N : Nat) (t_0 : ((List Int × Bool) × List Int)) : Option (Er × Unit) :=
  Option.bind (F_shape_Valid N (t_0).1) fun y0 =>
  cond (Bool.not (Go.Eng.Er.isNil (y0).1))
    (
    some y0)
    (
    Option.bind (F_shape_Elems N ((t_0).1).1) fun y1 =>
    cond (decide (@Ne Int (Nat.cast (List.length (t_0).2) : Int) (y1).1))
      (
      some ((Go.Eng.Er.s ErrShape), ()))
      (
      Option.bind (g_tens_Valid_0 N N (t_0, ()) (t_0).2 (Nat.cast (List.length (t_0).2) : Int) (0 : Int)) fun y2 =>
      Sum.elim (fun y3 =>
        some (Go.Eng.Er.nil, ()))
        (fun y4 =>
        some y4) y2))

abbrev c_tens_Valid (N : Nat) : CallSpec := ⟨54, ps_tens_Valid, rs_tens_Valid, fun x => F_tens_Valid N x.1⟩
abbrev l_tens_Valid_0 (N : Nat) : LoopSpec := ⟨0, h_tens_Valid_0, e_tens_Valid_0, fun x => g_tens_Valid_0 N N x.1 x.2.1 x.2.2.1 x.2.2.2.1⟩

theorem cs_tens_Valid_ok (S : Nat → Addr) (N : Nat) : CallsOK Go.Proofs.Tryz.prog E S (cs_tens_Valid N) :=
  .cons (F_shape_Valid_ok S N) (.cons (F_shape_Elems_ok S N) (.cons (F_tens_fits_ok S N) (.nil)))
noncomputable abbrev b_tens_Valid_0 : Code := (loopsOf b_tens_Valid).getD 0 .skip
theorem g_tens_Valid_0_ok (S : Nat → Addr) (N : Nat) : ∀ n x y, (fun (x : Val (slotsTy h_tens_Valid_0)) => g_tens_Valid_0 N n x.1 x.2.1 x.2.2.1 x.2.2.2.1) x = some y → LoopCon Go.Proofs.Tryz.prog E S b_tens_Valid_0 (encSlots h_tens_Valid_0 x) (encEx e_tens_Valid_0 y).1 (encEx e_tens_Valid_0 y).2 :=
  loop_spec E_ok mixed (cs_tens_Valid_ok S N) (all := loopsOf b_tens_Valid) (ls := []) (.nil) (i := 0) (by kernel_rfl) (inner_of (by kernel_rfl)) (head := h_tens_Valid_0) (ex := e_tens_Valid_0) (fun n (x : Val (slotsTy h_tens_Valid_0)) => g_tens_Valid_0 N n x.1 x.2.1 x.2.2.1 x.2.2.2.1) (fun _ => rfl) (fun n x => by kernel_rfl)
theorem F_tens_Valid_ok (S : Nat → Addr) (N : Nat) : ∀ x y, (c_tens_Valid N).g x = some y → FCon Go.Proofs.Tryz.prog E S 54 ps_tens_Valid rs_tens_Valid x y := by
  intro x y h
  exact fun_spec E_ok mixed (cs_tens_Valid_ok S N) (f := 54) (fi := ⟨b_tens_Valid, 41, Go.Proofs.Tryz.f54.results.toList⟩) (by kernel_rfl) (ls := [l_tens_Valid_0 N]) (.cons (by kernel_rfl) (g_tens_Valid_0_ok S N N) (.nil)) (by kernel_rfl) (ps := ps_tens_Valid) (rs := rs_tens_Valid) (Eq.trans (b := F_tens_Valid N x.1) (by kernel_rfl) h)

/-! lodge/op.result -/

abbrev ps_op_result : List Ty := [(.int .i64), (.sl (.int .i64)), (.sl (.st (.pair (.st (.pair (.sl (.int .i64)) .bool)) (.sl (.int .i64)))))]
abbrev rs_op_result : List Slot := [.data (.st (.pair (.sl (.int .i64)) .bool)), .data (.sl (.st (.pair (.sl (.int .i64)) .bool))), .data .err]
abbrev cs_op_result (N : Nat) : List CallSpec := [c_op_Result N, c_tens_Valid N]
noncomputable abbrev b_op_result : Code := (Go.Proofs.Tryz.f26.body).getD .skip

abbrev h_op_result_0 : List Slot := [.data (.int .i64), .data (.sl (.int .i64)), .dead, .dead, .dead, .dead, .box [.sl (.int .i64), .d .bool], .dead, .dead, .sl (.st (.pair (.sl (.int .i64)) .bool)), .dead, .dead, .dead, .dead, .dead, .data (.sl (.st (.pair (.st (.pair (.sl (.int .i64)) .bool)) (.sl (.int .i64))))), .data (.int .i64), .data (.int .i64), .dead, .dead, .dead, .dead, .dead, .dead, .dead, .dead, .dead, .dead, .dead, .dead, .dead, .dead, .dead, .dead, .dead, .dead, .dead, .dead, .dead, .dead, .dead, .dead, .dead]
abbrev e_op_result_0 : List (AX × List Slot) := [(AX.exit 0, [.data (.int .i64), .data (.sl (.int .i64)), .dead, .dead, .dead, .dead, .box [.sl (.int .i64), .d .bool], .dead, .dead, .sl (.st (.pair (.sl (.int .i64)) .bool)), .dead, .dead, .dead, .dead, .dead, .dead, .dead, .dead, .dead, .dead, .dead, .dead, .dead, .dead, .dead, .dead, .dead, .dead, .dead, .dead, .dead, .dead, .dead, .dead, .dead, .dead, .dead, .dead, .dead, .dead, .dead, .dead, .dead]), (AX.ret, [.dead, .dead, .dead, .dead, .dead, .dead, .box [.sl (.int .i64), .d .bool], .sl (.st (.pair (.sl (.int .i64)) .bool)), .data .err, .dead, .dead, .dead, .dead, .dead, .dead, .dead, .dead, .dead, .dead, .dead, .dead, .dead, .dead, .dead, .dead, .dead, .dead, .dead, .dead, .dead, .dead, .dead, .dead, .dead, .dead, .dead, .dead, .dead, .dead, .dead, .dead, .dead, .dead])]
def g_op_result_0 (N : Nat) : Nat → Int → List Int → (List Int × (Bool × Unit)) → List ((List Int × Bool)) → List (((List Int × Bool) × List Int)) → Int → Int → Option (Sum (Int × (List Int × ((List Int × (Bool × Unit)) × (List ((List Int × Bool)) × Unit)))) ((List Int × (Bool × Unit)) × (List ((List Int × Bool)) × (Er × Unit))))
  | 0, _, _, _, _, _, _, _ => none
  | n + 1, op_0, args_1, t_6, descs_9, t_15, t_16, t_17 =>
    cond (decide (t_17 < t_16))
      (
      cond (decide ((0 : Int) ≤ t_17))
        (
        cond (decide ((Int.toNat t_17) < (List.length t_15)))
          (
          Option.bind (F_tens_Valid N (List.getD t_15 (Int.toNat t_17) ((([] : List Int), false), ([] : List Int)))) fun y1 =>
          cond (Bool.not (Go.Eng.Er.isNil (y1).1))
            (
            some (Sum.inr ((([] : List Int), (false, ())), (([] : List ((List Int) × Bool)), y1))))
            (
            cond (decide (((0 : Nat) + (List.length descs_9)) = (List.length descs_9)))
              (
              cond (decide ((((List.length descs_9) + 1) * (32 + (1 : Nat))) ≤ Go.Eng.most))
                (
                cond (decide ((List.length (t_6).1) = (List.length (t_6).1)))
                  (
                  cond (decide (((List.length descs_9) + 1) = (List.length ((List.take (List.length descs_9) descs_9) ++ (((List.getD t_15 (Int.toNat t_17) ((([] : List Int), false), ([] : List Int)))).1 :: ([] : List ((List Int) × Bool)))))))
                    (
                    (g_op_result_0 N n op_0 args_1 t_6 ((List.take (List.length descs_9) descs_9) ++ (((List.getD t_15 (Int.toNat t_17) ((([] : List Int), false), ([] : List Int)))).1 :: ([] : List ((List Int) × Bool)))) t_15 t_16 (wi64 (t_17 + (1 : Int)))))
                    (
                    none))
                  (
                  none))
                (
                none))
              (
              none)))
          (
          none))
        (
        none))
      (
      cond (decide ((List.length (t_6).1) = (List.length (t_6).1)))
        (
        cond (decide ((List.length descs_9) = (List.length descs_9)))
          (
          some (Sum.inl (op_0, (args_1, (t_6, (descs_9, ()))))))
          (
          none))
        (
        none))

def F_op_result (N : Nat) (op_0 : Int) (args_1 : List Int) (ins_2 : List (((List Int × Bool) × List Int))) : Option ((List Int × Bool) × (List ((List Int × Bool)) × (Er × Unit))) :=
  Option.bind (g_op_result_0 N N op_0 args_1 (([] : List Int), (false, ())) ([] : List ((List Int) × Bool)) ins_2 (Nat.cast (List.length ins_2) : Int) (0 : Int)) fun y0 =>
  Sum.elim (fun y1 =>
    cond (decide (((0 : Nat) + (List.length ((((y1).2).2).2).1)) ≤ (List.length ((((y1).2).2).2).1)))
      (
      Option.bind (F_op_Result N (y1).1 ((y1).2).1 (List.take (List.length ((((y1).2).2).2).1) ((((y1).2).2).2).1)) fun y2 =>
      cond (decide (((0 : Nat) + (List.length ((((y1).2).2).2).1)) ≤ (List.length ((((y1).2).2).2).1)))
        (
        some ((y2).1, ((List.take (List.length ((((y1).2).2).2).1) ((((y1).2).2).2).1), (y2).2)))
        (
        none))
      (
      none))
    (fun y3 =>
    cond (decide (((0 : Nat) + (List.length ((y3).1).1)) ≤ (List.length ((y3).1).1)))
      (
      cond (decide (((0 : Nat) + (List.length ((y3).2).1)) ≤ (List.length ((y3).2).1)))
        (
        some (((List.take (List.length ((y3).1).1) ((y3).1).1), (((y3).1).2).1), ((List.take (List.length ((y3).2).1) ((y3).2).1), ((y3).2).2)))
        (
        none))
      (
      none)) y0

abbrev c_op_result (N : Nat) : CallSpec := ⟨26, ps_op_result, rs_op_result, fun x => F_op_result N x.1 x.2.1 x.2.2.1⟩
abbrev l_op_result_0 (N : Nat) : LoopSpec := ⟨0, h_op_result_0, e_op_result_0, fun x => g_op_result_0 N N x.1 x.2.1 x.2.2.1 x.2.2.2.1 x.2.2.2.2.1 x.2.2.2.2.2.1 x.2.2.2.2.2.2.1⟩

theorem cs_op_result_ok (S : Nat → Addr) (N : Nat) : CallsOK Go.Proofs.Tryz.prog E S (cs_op_result N) :=
  .cons (F_op_Result_ok S N) (.cons (F_tens_Valid_ok S N) (.nil))
noncomputable abbrev b_op_result_0 : Code := (loopsOf b_op_result).getD 0 .skip
theorem g_op_result_0_ok (S : Nat → Addr) (N : Nat) : ∀ n x y, (fun (x : Val (slotsTy h_op_result_0)) => g_op_result_0 N n x.1 x.2.1 x.2.2.1 x.2.2.2.1 x.2.2.2.2.1 x.2.2.2.2.2.1 x.2.2.2.2.2.2.1) x = some y → LoopCon Go.Proofs.Tryz.prog E S b_op_result_0 (encSlots h_op_result_0 x) (encEx e_op_result_0 y).1 (encEx e_op_result_0 y).2 :=
  loop_spec E_ok mixed (cs_op_result_ok S N) (all := loopsOf b_op_result) (ls := []) (.nil) (i := 0) (by kernel_rfl) (inner_of (by kernel_rfl)) (head := h_op_result_0) (ex := e_op_result_0) (fun n (x : Val (slotsTy h_op_result_0)) => g_op_result_0 N n x.1 x.2.1 x.2.2.1 x.2.2.2.1 x.2.2.2.2.1 x.2.2.2.2.2.1 x.2.2.2.2.2.2.1) (fun _ => rfl) (fun n x => by kernel_rfl)
theorem F_op_result_ok (S : Nat → Addr) (N : Nat) : ∀ x y, (c_op_result N).g x = some y → FCon Go.Proofs.Tryz.prog E S 26 ps_op_result rs_op_result x y := by
  intro x y h
  exact fun_spec E_ok mixed (cs_op_result_ok S N) (f := 26) (fi := ⟨b_op_result, 43, Go.Proofs.Tryz.f26.results.toList⟩) (by kernel_rfl) (ls := [l_op_result_0 N]) (.cons (by kernel_rfl) (g_op_result_0_ok S N N) (.nil)) (by kernel_rfl) (ps := ps_op_result) (rs := rs_op_result) (Eq.trans (b := F_op_result N x.1 x.2.1 x.2.2.1) (by kernel_rfl) h)

/-! lodge/op.reads$1 -/

abbrev ps_op_reads_1 : List Ty := [(.int .i64), (.ref (.st (.pair (.st (.pair (.sl (.int .i64)) .bool)) (.sl (.int .i64)))))]
abbrev rs_op_reads_1 : List Slot := [.data (.int .i64)]
abbrev cs_op_reads_1 (N : Nat) : List CallSpec := []
noncomputable abbrev b_op_reads_1 : Code := (Go.Proofs.Tryz.f55.body).getD .skip

def F_op_reads_1 (N : Nat) (i_0 : Int) (t_1 : ((List Int × Bool) × List Int)) : Option (Int × Unit) :=
  cond (decide ((0 : Int) ≤ i_0))
    (
    cond (decide ((Int.toNat i_0) < (List.length (t_1).2)))
      (
      some ((List.getD (t_1).2 (Int.toNat i_0) (0 : Int)), ()))
      (
      none))
    (
    none)

abbrev c_op_reads_1 (N : Nat) : CallSpec := ⟨55, ps_op_reads_1, rs_op_reads_1, fun x => F_op_reads_1 N x.1 x.2.1⟩

theorem cs_op_reads_1_ok (S : Nat → Addr) (N : Nat) : CallsOK Go.Proofs.Tryz.prog E S (cs_op_reads_1 N) :=
  .nil
theorem F_op_reads_1_ok (S : Nat → Addr) (N : Nat) : ∀ x y, (c_op_reads_1 N).g x = some y → FCon Go.Proofs.Tryz.prog E S 55 ps_op_reads_1 rs_op_reads_1 x y := by
  intro x y h
  exact fun_spec E_ok mixed (cs_op_reads_1_ok S N) (f := 55) (fi := ⟨b_op_reads_1, 9, Go.Proofs.Tryz.f55.results.toList⟩) (by kernel_rfl) (ls := []) (.nil) (by kernel_rfl) (ps := ps_op_reads_1) (rs := rs_op_reads_1) (Eq.trans (b := F_op_reads_1 N x.1 x.2.1) (by kernel_rfl) h)

/-! lodge/op.reads -/

abbrev ps_op_reads : List Ty := [(.sl (.st (.pair (.st (.pair (.sl (.int .i64)) .bool)) (.sl (.int .i64)))))]
abbrev rs_op_reads : List Slot := [.sl (.clo 55 (.ref (.st (.pair (.st (.pair (.sl (.int .i64)) .bool)) (.sl (.int .i64))))))]
abbrev cs_op_reads (N : Nat) : List CallSpec := [c_op_reads_1 N]
noncomputable abbrev b_op_reads : Code := (Go.Proofs.Tryz.f27.body).getD .skip

abbrev h_op_reads_0 : List Slot := [.dead, .dead, .dead, .sl (.clo 55 (.ref (.st (.pair (.st (.pair (.sl (.int .i64)) .bool)) (.sl (.int .i64)))))), .dead, .dead, .data (.sl (.st (.pair (.st (.pair (.sl (.int .i64)) .bool)) (.sl (.int .i64))))), .data (.int .i64), .data (.int .i64), .dead, .dead, .dead, .dead, .dead, .dead, .dead, .dead, .dead]
abbrev e_op_reads_0 : List (AX × List Slot) := [(AX.exit 0, [.dead, .dead, .dead, .sl (.clo 55 (.ref (.st (.pair (.st (.pair (.sl (.int .i64)) .bool)) (.sl (.int .i64)))))), .dead, .dead, .dead, .dead, .dead, .dead, .dead, .dead, .dead, .dead, .dead, .dead, .dead, .dead])]
def g_op_reads_0 (N : Nat) : Nat → List ((List Int × Bool) × List Int) → List (((List Int × Bool) × List Int)) → Int → Int → Option (List ((List Int × Bool) × List Int) × Unit)
  | 0, _, _, _, _ => none
  | n + 1, l_3, t_6, t_7, t_8 =>
    cond (decide (t_8 < t_7))
      (
      cond (decide ((0 : Int) ≤ t_8))
        (
        cond (decide ((Int.toNat t_8) < (List.length t_6)))
          (
          cond (decide (((0 : Nat) + (List.length l_3)) = (List.length l_3)))
            (
            cond (decide ((((List.length l_3) + 1) * (8 + (1 : Nat))) ≤ Go.Eng.most))
              (
              cond (decide (((List.length l_3) + 1) = (List.length ((List.take (List.length l_3) l_3) ++ ((List.getD t_6 (Int.toNat t_8) ((([] : List Int), false), ([] : List Int))) :: ([] : List (((List Int) × Bool) × (List Int))))))))
                (
                (g_op_reads_0 N n ((List.take (List.length l_3) l_3) ++ ((List.getD t_6 (Int.toNat t_8) ((([] : List Int), false), ([] : List Int))) :: ([] : List (((List Int) × Bool) × (List Int))))) t_6 t_7 (wi64 (t_8 + (1 : Int)))))
                (
                none))
              (
              none))
            (
            none))
          (
          none))
        (
        none))
      (
      cond (decide ((List.length l_3) = (List.length l_3)))
        (
        some (l_3, ()))
        (
        none))

def F_op_reads (N : Nat) (ins_0 : List (((List Int × Bool) × List Int))) : Option (List ((List Int × Bool) × List Int) × Unit) :=
  Option.bind (g_op_reads_0 N N ([] : List (((List Int) × Bool) × (List Int))) ins_0 (Nat.cast (List.length ins_0) : Int) (0 : Int)) fun y0 =>
  cond (decide ((List.length (y0).1) = (List.length (y0).1)))
    (
    some y0)
    (
    none)

abbrev c_op_reads (N : Nat) : CallSpec := ⟨27, ps_op_reads, rs_op_reads, fun x => F_op_reads N x.1⟩
abbrev l_op_reads_0 (N : Nat) : LoopSpec := ⟨0, h_op_reads_0, e_op_reads_0, fun x => g_op_reads_0 N N x.1 x.2.1 x.2.2.1 x.2.2.2.1⟩

theorem cs_op_reads_ok (S : Nat → Addr) (N : Nat) : CallsOK Go.Proofs.Tryz.prog E S (cs_op_reads N) :=
  .cons (F_op_reads_1_ok S N) (.nil)
noncomputable abbrev b_op_reads_0 : Code := (loopsOf b_op_reads).getD 0 .skip
theorem g_op_reads_0_ok (S : Nat → Addr) (N : Nat) : ∀ n x y, (fun (x : Val (slotsTy h_op_reads_0)) => g_op_reads_0 N n x.1 x.2.1 x.2.2.1 x.2.2.2.1) x = some y → LoopCon Go.Proofs.Tryz.prog E S b_op_reads_0 (encSlots h_op_reads_0 x) (encEx e_op_reads_0 y).1 (encEx e_op_reads_0 y).2 :=
  loop_spec E_ok mixed (cs_op_reads_ok S N) (all := loopsOf b_op_reads) (ls := []) (.nil) (i := 0) (by kernel_rfl) (inner_of (by kernel_rfl)) (head := h_op_reads_0) (ex := e_op_reads_0) (fun n (x : Val (slotsTy h_op_reads_0)) => g_op_reads_0 N n x.1 x.2.1 x.2.2.1 x.2.2.2.1) (fun _ => rfl) (fun n x => by kernel_rfl)
theorem F_op_reads_ok (S : Nat → Addr) (N : Nat) : ∀ x y, (c_op_reads N).g x = some y → FCon Go.Proofs.Tryz.prog E S 27 ps_op_reads rs_op_reads x y := by
  intro x y h
  exact fun_spec E_ok mixed (cs_op_reads_ok S N) (f := 27) (fi := ⟨b_op_reads, 18, Go.Proofs.Tryz.f27.results.toList⟩) (by kernel_rfl) (ls := [l_op_reads_0 N]) (.cons (by kernel_rfl) (g_op_reads_0_ok S N N) (.nil)) (by kernel_rfl) (ps := ps_op_reads) (rs := rs_op_reads) (Eq.trans (b := F_op_reads N x.1) (by kernel_rfl) h)

/-! lodge/tens.Wide -/

abbrev ps_tens_Wide : List Ty := [(.int .i64)]
abbrev rs_tens_Wide : List Slot := [.data (.int .i64)]
abbrev cs_tens_Wide (N : Nat) : List CallSpec := []
noncomputable abbrev b_tens_Wide : Code := (Go.Proofs.Tryz.f84.body).getD .skip

def F_tens_Wide (N : Nat) (n_0 : Int) : Option (Int × Unit) :=
  some ((wi64 (wi32 (wu32 (wu64 n_0)))), ())

abbrev c_tens_Wide (N : Nat) : CallSpec := ⟨84, ps_tens_Wide, rs_tens_Wide, fun x => F_tens_Wide N x.1⟩

theorem cs_tens_Wide_ok (S : Nat → Addr) (N : Nat) : CallsOK Go.Proofs.Tryz.prog E S (cs_tens_Wide N) :=
  .nil
theorem F_tens_Wide_ok (S : Nat → Addr) (N : Nat) : ∀ x y, (c_tens_Wide N).g x = some y → FCon Go.Proofs.Tryz.prog E S 84 ps_tens_Wide rs_tens_Wide x y := by
  intro x y h
  exact fun_spec E_ok mixed (cs_tens_Wide_ok S N) (f := 84) (fi := ⟨b_tens_Wide, 8, Go.Proofs.Tryz.f84.results.toList⟩) (by kernel_rfl) (ls := []) (.nil) (by kernel_rfl) (ps := ps_tens_Wide) (rs := rs_tens_Wide) (Eq.trans (b := F_tens_Wide N x.1) (by kernel_rfl) h)

/-! lodge/mat.At -/

abbrev ps_mat_At : List Ty := [(.int .i64), (.int .i64), (.clo 55 (.ref (.st (.pair (.st (.pair (.sl (.int .i64)) .bool)) (.sl (.int .i64)))))), (.clo 55 (.ref (.st (.pair (.st (.pair (.sl (.int .i64)) .bool)) (.sl (.int .i64)))))), (.int .i64), (.int .i64), (.int .i64)]
abbrev rs_mat_At : List Slot := [.data (.int .i64)]
abbrev cs_mat_At (N : Nat) : List CallSpec := [c_op_reads_1 N, c_tens_Wide N]
noncomputable abbrev b_mat_At : Code := (Go.Proofs.Tryz.f57.body).getD .skip

abbrev h_mat_At_0 : List Slot := [.data (.int .i64), .data (.int .i64), .data (.clo 55 (.ref (.st (.pair (.st (.pair (.sl (.int .i64)) .bool)) (.sl (.int .i64)))))), .data (.clo 55 (.ref (.st (.pair (.st (.pair (.sl (.int .i64)) .bool)) (.sl (.int .i64)))))), .data (.int .i64), .data (.int .i64), .dead, .dead, .dead, .dead, .dead, .dead, .dead, .dead, .dead, .data (.int .i64), .data (.int .i64), .data (.int .i64), .dead, .dead, .dead, .dead, .dead, .dead, .dead, .data (.int .i64), .data (.int .i64), .dead, .dead, .dead, .dead, .dead, .dead, .dead, .dead, .dead, .dead, .dead, .dead, .dead, .dead, .dead, .dead, .dead, .dead, .dead, .dead, .dead, .dead, .dead, .dead, .dead, .dead]
abbrev e_mat_At_0 : List (AX × List Slot) := [(AX.exit 0, [.dead, .dead, .dead, .dead, .dead, .dead, .dead, .dead, .dead, .dead, .dead, .dead, .dead, .dead, .dead, .data (.int .i64), .dead, .dead, .dead, .dead, .dead, .dead, .dead, .dead, .dead, .dead, .dead, .dead, .dead, .dead, .dead, .dead, .dead, .dead, .dead, .dead, .dead, .dead, .dead, .dead, .dead, .dead, .dead, .dead, .dead, .dead, .dead, .dead, .dead, .dead, .dead, .dead, .dead])]
def g_mat_At_0 (N : Nat) : Nat → Int → Int → ((List Int × Bool) × List Int) → ((List Int × Bool) × List Int) → Int → Int → Int → Int → Int → Int → Int → Option (Int × Unit)
  | 0, _, _, _, _, _, _, _, _, _, _, _ => none
  | n + 1, k_0, n_1, a_2, b_3, za_4, zb_5, s_15, row_16, col_17, t_25, t_26 =>
    cond (decide (t_26 < t_25))
      (
      Option.bind (F_op_reads_1 N (wi64 ((wi64 (row_16 * k_0)) + t_26)) a_2) fun y2 =>
      Option.bind (F_op_reads_1 N (wi64 ((wi64 (t_26 * n_1)) + col_17)) b_3) fun y3 =>
      (g_mat_At_0 N n k_0 n_1 a_2 b_3 za_4 zb_5 (wi64 (s_15 + (wi64 ((wi64 ((y2).1 - za_4)) * (wi64 ((y3).1 - zb_5)))))) row_16 col_17 t_25 (wi64 (t_26 + (1 : Int)))))
      (
      some (s_15, ()))

def F_mat_At (N : Nat) (k_0 : Int) (n_1 : Int) (a_2 : ((List Int × Bool) × List Int)) (b_3 : ((List Int × Bool) × List Int)) (za_4 : Int) (zb_5 : Int) (i_6 : Int) : Option (Int × Unit) :=
  cond (decide (@Ne Int n_1 (0 : Int)))
    (
    cond (decide (@Ne Int n_1 (0 : Int)))
      (
      Option.bind (g_mat_At_0 N N k_0 n_1 a_2 b_3 za_4 zb_5 (0 : Int) (wi64 (Int.tdiv i_6 n_1)) (Int.tmod i_6 n_1) k_0 (0 : Int)) fun y0 =>
      Option.bind (F_tens_Wide N (y0).1) fun y1 =>
      some y1)
      (
      none))
    (
    none)

abbrev c_mat_At (N : Nat) : CallSpec := ⟨57, ps_mat_At, rs_mat_At, fun x => F_mat_At N x.1 x.2.1 x.2.2.1 x.2.2.2.1 x.2.2.2.2.1 x.2.2.2.2.2.1 x.2.2.2.2.2.2.1⟩
abbrev l_mat_At_0 (N : Nat) : LoopSpec := ⟨0, h_mat_At_0, e_mat_At_0, fun x => g_mat_At_0 N N x.1 x.2.1 x.2.2.1 x.2.2.2.1 x.2.2.2.2.1 x.2.2.2.2.2.1 x.2.2.2.2.2.2.1 x.2.2.2.2.2.2.2.1 x.2.2.2.2.2.2.2.2.1 x.2.2.2.2.2.2.2.2.2.1 x.2.2.2.2.2.2.2.2.2.2.1⟩

theorem cs_mat_At_ok (S : Nat → Addr) (N : Nat) : CallsOK Go.Proofs.Tryz.prog E S (cs_mat_At N) :=
  .cons (F_op_reads_1_ok S N) (.cons (F_tens_Wide_ok S N) (.nil))
noncomputable abbrev b_mat_At_0 : Code := (loopsOf b_mat_At).getD 0 .skip
theorem g_mat_At_0_ok (S : Nat → Addr) (N : Nat) : ∀ n x y, (fun (x : Val (slotsTy h_mat_At_0)) => g_mat_At_0 N n x.1 x.2.1 x.2.2.1 x.2.2.2.1 x.2.2.2.2.1 x.2.2.2.2.2.1 x.2.2.2.2.2.2.1 x.2.2.2.2.2.2.2.1 x.2.2.2.2.2.2.2.2.1 x.2.2.2.2.2.2.2.2.2.1 x.2.2.2.2.2.2.2.2.2.2.1) x = some y → LoopCon Go.Proofs.Tryz.prog E S b_mat_At_0 (encSlots h_mat_At_0 x) (encEx e_mat_At_0 y).1 (encEx e_mat_At_0 y).2 :=
  loop_spec E_ok mixed (cs_mat_At_ok S N) (all := loopsOf b_mat_At) (ls := []) (.nil) (i := 0) (by kernel_rfl) (inner_of (by kernel_rfl)) (head := h_mat_At_0) (ex := e_mat_At_0) (fun n (x : Val (slotsTy h_mat_At_0)) => g_mat_At_0 N n x.1 x.2.1 x.2.2.1 x.2.2.2.1 x.2.2.2.2.1 x.2.2.2.2.2.1 x.2.2.2.2.2.2.1 x.2.2.2.2.2.2.2.1 x.2.2.2.2.2.2.2.2.1 x.2.2.2.2.2.2.2.2.2.1 x.2.2.2.2.2.2.2.2.2.2.1) (fun _ => rfl) (fun n x => by kernel_rfl)
theorem F_mat_At_ok (S : Nat → Addr) (N : Nat) : ∀ x y, (c_mat_At N).g x = some y → FCon Go.Proofs.Tryz.prog E S 57 ps_mat_At rs_mat_At x y := by
  intro x y h
  exact fun_spec E_ok mixed (cs_mat_At_ok S N) (f := 57) (fi := ⟨b_mat_At, 53, Go.Proofs.Tryz.f57.results.toList⟩) (by kernel_rfl) (ls := [l_mat_At_0 N]) (.cons (by kernel_rfl) (g_mat_At_0_ok S N N) (.nil)) (by kernel_rfl) (ps := ps_mat_At) (rs := rs_mat_At) (Eq.trans (b := F_mat_At N x.1 x.2.1 x.2.2.1 x.2.2.2.1 x.2.2.2.2.1 x.2.2.2.2.2.1 x.2.2.2.2.2.2.1) (by kernel_rfl) h)

/-! lodge/conv.Inside -/

abbrev ps_conv_Inside : List Ty := [(.int .i64), (.int .i64), (.int .i64), (.int .i64), (.int .i64)]
abbrev rs_conv_Inside : List Slot := [.data (.int .i64), .data (.int .i64)]
abbrev cs_conv_Inside (N : Nat) : List CallSpec := []
noncomputable abbrev b_conv_Inside : Code := (Go.Proofs.Tryz.f85.body).getD .skip

def F_conv_Inside (N : Nat) (n_0 : Int) (k_1 : Int) (stride_2 : Int) (pad_3 : Int) (o_4 : Int) : Option (Int × (Int × Unit)) :=
  cond (decide (n_0 < (0 : Int)))
    (
    some ((0 : Int), ((0 : Int), ())))
    (
    cond (decide (pad_3 < (0 : Int)))
      (
      some ((0 : Int), ((0 : Int), ())))
      (
      cond (decide (o_4 < (0 : Int)))
        (
        some ((0 : Int), ((0 : Int), ())))
        (
        cond (decide (k_1 < (1 : Int)))
          (
          some ((0 : Int), ((0 : Int), ())))
          (
          cond (decide (n_0 < (1 : Int)))
            (
            some ((0 : Int), ((0 : Int), ())))
            (
            cond (decide (stride_2 < (1 : Int)))
              (
              some ((0 : Int), ((0 : Int), ())))
              (
              cond (decide ((1048576 : Int) < (Go.Eng.imax (Go.Eng.imax (Go.Eng.imax (Go.Eng.imax n_0 k_1) stride_2) pad_3) o_4)))
                (
                some ((0 : Int), ((0 : Int), ())))
                (
                cond (decide ((Go.Eng.imin k_1 (wi64 (n_0 - (wi64 ((wi64 (o_4 * stride_2)) - pad_3))))) ≤ (Go.Eng.imax (0 : Int) (wi64 ((0 : Int) - (wi64 ((wi64 (o_4 * stride_2)) - pad_3)))))))
                  (
                  some ((0 : Int), ((0 : Int), ())))
                  (
                  some ((Go.Eng.imax (0 : Int) (wi64 ((0 : Int) - (wi64 ((wi64 (o_4 * stride_2)) - pad_3))))), ((Go.Eng.imin k_1 (wi64 (n_0 - (wi64 ((wi64 (o_4 * stride_2)) - pad_3))))), ()))))))))))

abbrev c_conv_Inside (N : Nat) : CallSpec := ⟨85, ps_conv_Inside, rs_conv_Inside, fun x => F_conv_Inside N x.1 x.2.1 x.2.2.1 x.2.2.2.1 x.2.2.2.2.1⟩

theorem cs_conv_Inside_ok (S : Nat → Addr) (N : Nat) : CallsOK Go.Proofs.Tryz.prog E S (cs_conv_Inside N) :=
  .nil
theorem F_conv_Inside_ok (S : Nat → Addr) (N : Nat) : ∀ x y, (c_conv_Inside N).g x = some y → FCon Go.Proofs.Tryz.prog E S 85 ps_conv_Inside rs_conv_Inside x y := by
  intro x y h
  exact fun_spec E_ok mixed (cs_conv_Inside_ok S N) (f := 85) (fi := ⟨b_conv_Inside, 64, Go.Proofs.Tryz.f85.results.toList⟩) (by kernel_rfl) (ls := []) (.nil) (by kernel_rfl) (ps := ps_conv_Inside) (rs := rs_conv_Inside) (Eq.trans (b := F_conv_Inside N x.1 x.2.1 x.2.2.1 x.2.2.2.1 x.2.2.2.2.1) (by kernel_rfl) h)

/-! lodge/conv.At -/

abbrev ps_conv_At : List Ty := [(.sl (.int .i64)), (.sl (.int .i64)), (.sl (.int .i64)), (.clo 55 (.ref (.st (.pair (.st (.pair (.sl (.int .i64)) .bool)) (.sl (.int .i64)))))), (.clo 55 (.ref (.st (.pair (.st (.pair (.sl (.int .i64)) .bool)) (.sl (.int .i64)))))), (.int .i64), (.int .i64)]
abbrev rs_conv_At : List Slot := [.data (.int .i64)]
abbrev cs_conv_At (N : Nat) : List CallSpec := [c_op_reads_1 N, c_tens_Wide N, c_conv_Inside N]
noncomputable abbrev b_conv_At : Code := (Go.Proofs.Tryz.f58.body).getD .skip

abbrev h_conv_At_2 : List Slot := [.dead, .data (.sl (.int .i64)), .data (.sl (.int .i64)), .data (.clo 55 (.ref (.st (.pair (.st (.pair (.sl (.int .i64)) .bool)) (.sl (.int .i64)))))), .data (.clo 55 (.ref (.st (.pair (.st (.pair (.sl (.int .i64)) .bool)) (.sl (.int .i64)))))), .dead, .dead, .dead, .dead, .dead, .dead, .dead, .dead, .dead, .dead, .dead, .dead, .data (.int .i64), .data (.int .i64), .data (.int .i64), .data (.int .i64), .dead, .dead, .data (.int .i64), .data (.int .i64), .dead, .data (.int .i64), .data (.int .i64), .data (.int .i64), .data (.int .i64), .data (.int .i64), .data (.int .i64), .dead, .dead, .dead, .dead, .dead, .dead, .dead, .dead, .dead, .dead, .dead, .dead, .dead, .dead, .dead, .dead, .dead, .dead, .dead, .dead, .dead, .dead, .dead, .dead, .dead, .dead, .dead, .dead, .dead, .dead, .dead, .dead, .dead, .dead, .dead, .dead, .dead, .dead, .dead, .dead, .dead, .dead, .dead, .dead, .dead, .dead, .dead, .dead, .dead, .dead, .dead, .dead, .dead, .dead, .dead, .dead, .dead, .dead, .dead, .dead, .dead, .dead, .dead, .dead, .dead, .dead, .dead, .dead, .dead, .dead, .dead, .dead, .dead, .dead, .dead, .dead, .dead, .data (.int .i64), .data (.int .i64), .dead, .dead, .dead, .dead, .dead, .dead, .dead, .dead, .dead, .dead, .dead, .dead, .dead, .dead, .dead, .dead, .dead, .dead, .dead, .dead, .dead, .dead, .dead, .dead, .dead, .dead, .dead, .dead, .dead, .dead, .dead, .dead, .dead, .dead, .dead, .dead, .dead, .dead, .dead, .dead, .dead, .dead, .dead, .dead]
abbrev e_conv_At_2 : List (AX × List Slot) := [(AX.exit 4, [.dead, .data (.sl (.int .i64)), .data (.sl (.int .i64)), .data (.clo 55 (.ref (.st (.pair (.st (.pair (.sl (.int .i64)) .bool)) (.sl (.int .i64)))))), .data (.clo 55 (.ref (.st (.pair (.st (.pair (.sl (.int .i64)) .bool)) (.sl (.int .i64)))))), .dead, .dead, .dead, .dead, .dead, .dead, .dead, .dead, .dead, .dead, .dead, .dead, .data (.int .i64), .data (.int .i64), .data (.int .i64), .data (.int .i64), .dead, .dead, .data (.int .i64), .data (.int .i64), .dead, .data (.int .i64), .data (.int .i64), .data (.int .i64), .data (.int .i64), .data (.int .i64), .data (.int .i64), .dead, .dead, .dead, .dead, .dead, .dead, .dead, .dead, .dead, .dead, .dead, .dead, .dead, .dead, .dead, .dead, .dead, .dead, .dead, .dead, .dead, .dead, .dead, .dead, .dead, .dead, .dead, .dead, .dead, .dead, .dead, .dead, .dead, .dead, .dead, .dead, .dead, .dead, .dead, .dead, .dead, .dead, .dead, .dead, .dead, .dead, .dead, .dead, .dead, .dead, .dead, .dead, .dead, .dead, .dead, .dead, .dead, .dead, .dead, .dead, .dead, .dead, .dead, .dead, .dead, .dead, .dead, .dead, .dead, .dead, .dead, .dead, .dead, .dead, .dead, .dead, .dead, .dead, .dead, .dead, .dead, .dead, .dead, .dead, .dead, .dead, .dead, .dead, .dead, .dead, .dead, .dead, .dead, .dead, .dead, .dead, .dead, .dead, .dead, .dead, .dead, .dead, .dead, .dead, .dead, .dead, .dead, .dead, .dead, .dead, .dead, .dead, .dead, .dead, .dead, .dead, .dead, .dead, .dead, .dead, .dead, .dead, .dead])]
def g_conv_At_2 (N : Nat) : Nat → List Int → List Int → ((List Int × Bool) × List Int) → ((List Int × Bool) × List Int) → Int → Int → Int → Int → Int → Int → Int → Int → Int → Int → Int → Int → Int → Int → Option (List Int × (List Int × (((List Int × Bool) × List Int) × (((List Int × Bool) × List Int) × (Int × (Int × (Int × (Int × (Int × (Int × (Int × (Int × (Int × (Int × (Int × (Int × Unit))))))))))))))))
  | 0, _, _, _, _, _, _, _, _, _, _, _, _, _, _, _, _, _, _ => none
  | n + 1, a_1, k_2, ga_3, gk_4, za_17, c_18, n_19, o_20, top_23, left_24, dyTo_26, dxFrom_27, dxTo_28, s_29, dy_30, dx_31, t_109, t_110 =>
    cond (decide (t_110 < t_109))
      (
      cond (decide (1 < (List.length a_1)))
        (
        Option.bind (F_op_reads_1 N (wi64 ((wi64 ((wi64 ((wi64 ((wi64 ((wi64 (top_23 + dy_30)) * (List.getD a_1 1 (0 : Int)))) + left_24)) + dx_31)) * c_18)) + t_110)) ga_3) fun y4 =>
        cond (decide (1 < (List.length k_2)))
          (
          Option.bind (F_op_reads_1 N (wi64 ((wi64 ((wi64 ((wi64 ((wi64 ((wi64 (dy_30 * (List.getD k_2 1 (0 : Int)))) + dx_31)) * c_18)) + t_110)) * n_19)) + o_20)) gk_4) fun y5 =>
          (g_conv_At_2 N n a_1 k_2 ga_3 gk_4 za_17 c_18 n_19 o_20 top_23 left_24 dyTo_26 dxFrom_27 dxTo_28 (wi64 (s_29 + (wi64 ((wi64 ((y4).1 - za_17)) * (y5).1)))) dy_30 dx_31 t_109 (wi64 (t_110 + (1 : Int)))))
          (
          none))
        (
        none))
      (
      some (a_1, (k_2, (ga_3, (gk_4, (za_17, (c_18, (n_19, (o_20, (top_23, (left_24, (dyTo_26, (dxFrom_27, (dxTo_28, (s_29, (dy_30, (dx_31, ())))))))))))))))))

abbrev h_conv_At_1 : List Slot := [.dead, .data (.sl (.int .i64)), .data (.sl (.int .i64)), .data (.clo 55 (.ref (.st (.pair (.st (.pair (.sl (.int .i64)) .bool)) (.sl (.int .i64)))))), .data (.clo 55 (.ref (.st (.pair (.st (.pair (.sl (.int .i64)) .bool)) (.sl (.int .i64)))))), .dead, .dead, .dead, .dead, .dead, .dead, .dead, .dead, .dead, .dead, .dead, .dead, .data (.int .i64), .data (.int .i64), .data (.int .i64), .data (.int .i64), .dead, .dead, .data (.int .i64), .data (.int .i64), .dead, .data (.int .i64), .data (.int .i64), .data (.int .i64), .data (.int .i64), .data (.int .i64), .data (.int .i64), .dead, .dead, .dead, .dead, .dead, .dead, .dead, .dead, .dead, .dead, .dead, .dead, .dead, .dead, .dead, .dead, .dead, .dead, .dead, .dead, .dead, .dead, .dead, .dead, .dead, .dead, .dead, .dead, .dead, .dead, .dead, .dead, .dead, .dead, .dead, .dead, .dead, .dead, .dead, .dead, .dead, .dead, .dead, .dead, .dead, .dead, .dead, .dead, .dead, .dead, .dead, .dead, .dead, .dead, .dead, .dead, .dead, .dead, .dead, .dead, .dead, .dead, .dead, .dead, .dead, .dead, .dead, .dead, .dead, .dead, .dead, .dead, .dead, .dead, .dead, .dead, .dead, .dead, .dead, .dead, .dead, .dead, .dead, .dead, .dead, .dead, .dead, .dead, .dead, .dead, .dead, .dead, .dead, .dead, .dead, .dead, .dead, .dead, .dead, .dead, .dead, .dead, .dead, .dead, .dead, .dead, .dead, .dead, .dead, .dead, .dead, .dead, .dead, .dead, .dead, .dead, .dead, .dead, .dead, .dead, .dead, .dead, .dead]
abbrev e_conv_At_1 : List (AX × List Slot) := [(AX.exit 1, [.dead, .data (.sl (.int .i64)), .data (.sl (.int .i64)), .data (.clo 55 (.ref (.st (.pair (.st (.pair (.sl (.int .i64)) .bool)) (.sl (.int .i64)))))), .data (.clo 55 (.ref (.st (.pair (.st (.pair (.sl (.int .i64)) .bool)) (.sl (.int .i64)))))), .dead, .dead, .dead, .dead, .dead, .dead, .dead, .dead, .dead, .dead, .dead, .dead, .data (.int .i64), .data (.int .i64), .data (.int .i64), .data (.int .i64), .dead, .dead, .data (.int .i64), .data (.int .i64), .dead, .data (.int .i64), .data (.int .i64), .data (.int .i64), .data (.int .i64), .data (.int .i64), .dead, .dead, .dead, .dead, .dead, .dead, .dead, .dead, .dead, .dead, .dead, .dead, .dead, .dead, .dead, .dead, .dead, .dead, .dead, .dead, .dead, .dead, .dead, .dead, .dead, .dead, .dead, .dead, .dead, .dead, .dead, .dead, .dead, .dead, .dead, .dead, .dead, .dead, .dead, .dead, .dead, .dead, .dead, .dead, .dead, .dead, .dead, .dead, .dead, .dead, .dead, .dead, .dead, .dead, .dead, .dead, .dead, .dead, .dead, .dead, .dead, .dead, .dead, .dead, .dead, .dead, .dead, .dead, .dead, .dead, .dead, .dead, .dead, .dead, .dead, .dead, .dead, .dead, .dead, .dead, .dead, .dead, .dead, .dead, .dead, .dead, .dead, .dead, .dead, .dead, .dead, .dead, .dead, .dead, .dead, .dead, .dead, .dead, .dead, .dead, .dead, .dead, .dead, .dead, .dead, .dead, .dead, .dead, .dead, .dead, .dead, .dead, .dead, .dead, .dead, .dead, .dead, .dead, .dead, .dead, .dead, .dead, .dead, .dead])]
def g_conv_At_1 (N : Nat) : Nat → List Int → List Int → ((List Int × Bool) × List Int) → ((List Int × Bool) × List Int) → Int → Int → Int → Int → Int → Int → Int → Int → Int → Int → Int → Int → Option (List Int × (List Int × (((List Int × Bool) × List Int) × (((List Int × Bool) × List Int) × (Int × (Int × (Int × (Int × (Int × (Int × (Int × (Int × (Int × (Int × (Int × Unit)))))))))))))))
  | 0, _, _, _, _, _, _, _, _, _, _, _, _, _, _, _, _ => none
  | n + 1, a_1, k_2, ga_3, gk_4, za_17, c_18, n_19, o_20, top_23, left_24, dyTo_26, dxFrom_27, dxTo_28, s_29, dy_30, dx_31 =>
    cond (decide (dxTo_28 ≤ dx_31))
      (
      some (a_1, (k_2, (ga_3, (gk_4, (za_17, (c_18, (n_19, (o_20, (top_23, (left_24, (dyTo_26, (dxFrom_27, (dxTo_28, (s_29, ((wi64 (dy_30 + (1 : Int))), ()))))))))))))))))
      (
      Option.bind (g_conv_At_2 N N a_1 k_2 ga_3 gk_4 za_17 c_18 n_19 o_20 top_23 left_24 dyTo_26 dxFrom_27 dxTo_28 s_29 dy_30 dx_31 c_18 (0 : Int)) fun y7 =>
      (g_conv_At_1 N n (y7).1 ((y7).2).1 (((y7).2).2).1 ((((y7).2).2).2).1 (((((y7).2).2).2).2).1 ((((((y7).2).2).2).2).2).1 (((((((y7).2).2).2).2).2).2).1 ((((((((y7).2).2).2).2).2).2).2).1 (((((((((y7).2).2).2).2).2).2).2).2).1 ((((((((((y7).2).2).2).2).2).2).2).2).2).1 (((((((((((y7).2).2).2).2).2).2).2).2).2).2).1 ((((((((((((y7).2).2).2).2).2).2).2).2).2).2).2).1 (((((((((((((y7).2).2).2).2).2).2).2).2).2).2).2).2).1 ((((((((((((((y7).2).2).2).2).2).2).2).2).2).2).2).2).2).1 (((((((((((((((y7).2).2).2).2).2).2).2).2).2).2).2).2).2).2).1 (wi64 (((((((((((((((((y7).2).2).2).2).2).2).2).2).2).2).2).2).2).2).2).1 + (1 : Int)))))

abbrev h_conv_At_0 : List Slot := [.dead, .data (.sl (.int .i64)), .data (.sl (.int .i64)), .data (.clo 55 (.ref (.st (.pair (.st (.pair (.sl (.int .i64)) .bool)) (.sl (.int .i64)))))), .data (.clo 55 (.ref (.st (.pair (.st (.pair (.sl (.int .i64)) .bool)) (.sl (.int .i64)))))), .dead, .dead, .dead, .dead, .dead, .dead, .dead, .dead, .dead, .dead, .dead, .dead, .data (.int .i64), .data (.int .i64), .data (.int .i64), .data (.int .i64), .dead, .dead, .data (.int .i64), .data (.int .i64), .dead, .data (.int .i64), .data (.int .i64), .data (.int .i64), .data (.int .i64), .data (.int .i64), .dead, .dead, .dead, .dead, .dead, .dead, .dead, .dead, .dead, .dead, .dead, .dead, .dead, .dead, .dead, .dead, .dead, .dead, .dead, .dead, .dead, .dead, .dead, .dead, .dead, .dead, .dead, .dead, .dead, .dead, .dead, .dead, .dead, .dead, .dead, .dead, .dead, .dead, .dead, .dead, .dead, .dead, .dead, .dead, .dead, .dead, .dead, .dead, .dead, .dead, .dead, .dead, .dead, .dead, .dead, .dead, .dead, .dead, .dead, .dead, .dead, .dead, .dead, .dead, .dead, .dead, .dead, .dead, .dead, .dead, .dead, .dead, .dead, .dead, .dead, .dead, .dead, .dead, .dead, .dead, .dead, .dead, .dead, .dead, .dead, .dead, .dead, .dead, .dead, .dead, .dead, .dead, .dead, .dead, .dead, .dead, .dead, .dead, .dead, .dead, .dead, .dead, .dead, .dead, .dead, .dead, .dead, .dead, .dead, .dead, .dead, .dead, .dead, .dead, .dead, .dead, .dead, .dead, .dead, .dead, .dead, .dead, .dead, .dead]
abbrev e_conv_At_0 : List (AX × List Slot) := [(AX.exit 0, [.dead, .dead, .dead, .dead, .dead, .dead, .dead, .dead, .dead, .dead, .dead, .dead, .dead, .dead, .dead, .dead, .dead, .dead, .dead, .dead, .dead, .dead, .dead, .dead, .dead, .dead, .dead, .dead, .dead, .data (.int .i64), .dead, .dead, .dead, .dead, .dead, .dead, .dead, .dead, .dead, .dead, .dead, .dead, .dead, .dead, .dead, .dead, .dead, .dead, .dead, .dead, .dead, .dead, .dead, .dead, .dead, .dead, .dead, .dead, .dead, .dead, .dead, .dead, .dead, .dead, .dead, .dead, .dead, .dead, .dead, .dead, .dead, .dead, .dead, .dead, .dead, .dead, .dead, .dead, .dead, .dead, .dead, .dead, .dead, .dead, .dead, .dead, .dead, .dead, .dead, .dead, .dead, .dead, .dead, .dead, .dead, .dead, .dead, .dead, .dead, .dead, .dead, .dead, .dead, .dead, .dead, .dead, .dead, .dead, .dead, .dead, .dead, .dead, .dead, .dead, .dead, .dead, .dead, .dead, .dead, .dead, .dead, .dead, .dead, .dead, .dead, .dead, .dead, .dead, .dead, .dead, .dead, .dead, .dead, .dead, .dead, .dead, .dead, .dead, .dead, .dead, .dead, .dead, .dead, .dead, .dead, .dead, .dead, .dead, .dead, .dead, .dead, .dead, .dead, .dead, .dead])]
def g_conv_At_0 (N : Nat) : Nat → List Int → List Int → ((List Int × Bool) × List Int) → ((List Int × Bool) × List Int) → Int → Int → Int → Int → Int → Int → Int → Int → Int → Int → Int → Option (Int × Unit)
  | 0, _, _, _, _, _, _, _, _, _, _, _, _, _, _, _ => none
  | n + 1, a_1, k_2, ga_3, gk_4, za_17, c_18, n_19, o_20, top_23, left_24, dyTo_26, dxFrom_27, dxTo_28, s_29, dy_30 =>
    cond (decide (dy_30 < dyTo_26))
      (
      Option.bind (g_conv_At_1 N N a_1 k_2 ga_3 gk_4 za_17 c_18 n_19 o_20 top_23 left_24 dyTo_26 dxFrom_27 dxTo_28 s_29 dy_30 dxFrom_27) fun y9 =>
      (g_conv_At_0 N n (y9).1 ((y9).2).1 (((y9).2).2).1 ((((y9).2).2).2).1 (((((y9).2).2).2).2).1 ((((((y9).2).2).2).2).2).1 (((((((y9).2).2).2).2).2).2).1 ((((((((y9).2).2).2).2).2).2).2).1 (((((((((y9).2).2).2).2).2).2).2).2).1 ((((((((((y9).2).2).2).2).2).2).2).2).2).1 (((((((((((y9).2).2).2).2).2).2).2).2).2).2).1 ((((((((((((y9).2).2).2).2).2).2).2).2).2).2).2).1 (((((((((((((y9).2).2).2).2).2).2).2).2).2).2).2).2).1 ((((((((((((((y9).2).2).2).2).2).2).2).2).2).2).2).2).2).1 (((((((((((((((y9).2).2).2).2).2).2).2).2).2).2).2).2).2).2).1))
      (
      some (s_29, ()))

def F_conv_At (N : Nat) (args_0 : List Int) (a_1 : List Int) (k_2 : List Int) (ga_3 : ((List Int × Bool) × List Int)) (gk_4 : ((List Int × Bool) × List Int)) (i_5 : Int) (ow_6 : Int) : Option (Int × Unit) :=
  cond (decide (0 < (List.length args_0)))
    (
    cond (decide (1 < (List.length args_0)))
      (
      cond (decide (2 < (List.length args_0)))
        (
        cond (decide (2 < (List.length a_1)))
          (
          cond (decide (3 < (List.length k_2)))
            (
            cond (decide (@Ne Int (List.getD k_2 3 (0 : Int)) (0 : Int)))
              (
              cond (decide (@Ne Int (List.getD k_2 3 (0 : Int)) (0 : Int)))
                (
                cond (decide (@Ne Int ow_6 (0 : Int)))
                  (
                  cond (decide (@Ne Int (List.getD k_2 3 (0 : Int)) (0 : Int)))
                    (
                    cond (decide (@Ne Int ow_6 (0 : Int)))
                      (
                      cond (decide (0 < (List.length a_1)))
                        (
                        cond (decide (0 < (List.length k_2)))
                          (
                          Option.bind (F_conv_Inside N (List.getD a_1 0 (0 : Int)) (List.getD k_2 0 (0 : Int)) (List.getD args_0 0 (0 : Int)) (List.getD args_0 1 (0 : Int)) (wi64 (Int.tdiv (wi64 (Int.tdiv i_5 (List.getD k_2 3 (0 : Int)))) ow_6))) fun y0 =>
                          cond (decide (1 < (List.length a_1)))
                            (
                            cond (decide (1 < (List.length k_2)))
                              (
                              Option.bind (F_conv_Inside N (List.getD a_1 1 (0 : Int)) (List.getD k_2 1 (0 : Int)) (List.getD args_0 0 (0 : Int)) (List.getD args_0 1 (0 : Int)) (Int.tmod (wi64 (Int.tdiv i_5 (List.getD k_2 3 (0 : Int)))) ow_6)) fun y1 =>
                              Option.bind (g_conv_At_0 N N a_1 k_2 ga_3 gk_4 (List.getD args_0 2 (0 : Int)) (List.getD a_1 2 (0 : Int)) (List.getD k_2 3 (0 : Int)) (Int.tmod i_5 (List.getD k_2 3 (0 : Int))) (wi64 ((wi64 ((wi64 (Int.tdiv (wi64 (Int.tdiv i_5 (List.getD k_2 3 (0 : Int)))) ow_6)) * (List.getD args_0 0 (0 : Int)))) - (List.getD args_0 1 (0 : Int)))) (wi64 ((wi64 ((Int.tmod (wi64 (Int.tdiv i_5 (List.getD k_2 3 (0 : Int)))) ow_6) * (List.getD args_0 0 (0 : Int)))) - (List.getD args_0 1 (0 : Int)))) ((y0).2).1 (y1).1 ((y1).2).1 (0 : Int) (y0).1) fun y2 =>
                              Option.bind (F_tens_Wide N (y2).1) fun y3 =>
                              some y3)
                              (
                              none))
                            (
                            none))
                          (
                          none))
                        (
                        none))
                      (
                      none))
                    (
                    none))
                  (
                  none))
                (
                none))
              (
              none))
            (
            none))
          (
          none))
        (
        none))
      (
      none))
    (
    none)

abbrev c_conv_At (N : Nat) : CallSpec := ⟨58, ps_conv_At, rs_conv_At, fun x => F_conv_At N x.1 x.2.1 x.2.2.1 x.2.2.2.1 x.2.2.2.2.1 x.2.2.2.2.2.1 x.2.2.2.2.2.2.1⟩
abbrev l_conv_At_2 (N : Nat) : LoopSpec := ⟨2, h_conv_At_2, e_conv_At_2, fun x => g_conv_At_2 N N x.1 x.2.1 x.2.2.1 x.2.2.2.1 x.2.2.2.2.1 x.2.2.2.2.2.1 x.2.2.2.2.2.2.1 x.2.2.2.2.2.2.2.1 x.2.2.2.2.2.2.2.2.1 x.2.2.2.2.2.2.2.2.2.1 x.2.2.2.2.2.2.2.2.2.2.1 x.2.2.2.2.2.2.2.2.2.2.2.1 x.2.2.2.2.2.2.2.2.2.2.2.2.1 x.2.2.2.2.2.2.2.2.2.2.2.2.2.1 x.2.2.2.2.2.2.2.2.2.2.2.2.2.2.1 x.2.2.2.2.2.2.2.2.2.2.2.2.2.2.2.1 x.2.2.2.2.2.2.2.2.2.2.2.2.2.2.2.2.1 x.2.2.2.2.2.2.2.2.2.2.2.2.2.2.2.2.2.1⟩
abbrev l_conv_At_1 (N : Nat) : LoopSpec := ⟨1, h_conv_At_1, e_conv_At_1, fun x => g_conv_At_1 N N x.1 x.2.1 x.2.2.1 x.2.2.2.1 x.2.2.2.2.1 x.2.2.2.2.2.1 x.2.2.2.2.2.2.1 x.2.2.2.2.2.2.2.1 x.2.2.2.2.2.2.2.2.1 x.2.2.2.2.2.2.2.2.2.1 x.2.2.2.2.2.2.2.2.2.2.1 x.2.2.2.2.2.2.2.2.2.2.2.1 x.2.2.2.2.2.2.2.2.2.2.2.2.1 x.2.2.2.2.2.2.2.2.2.2.2.2.2.1 x.2.2.2.2.2.2.2.2.2.2.2.2.2.2.1 x.2.2.2.2.2.2.2.2.2.2.2.2.2.2.2.1⟩
abbrev l_conv_At_0 (N : Nat) : LoopSpec := ⟨0, h_conv_At_0, e_conv_At_0, fun x => g_conv_At_0 N N x.1 x.2.1 x.2.2.1 x.2.2.2.1 x.2.2.2.2.1 x.2.2.2.2.2.1 x.2.2.2.2.2.2.1 x.2.2.2.2.2.2.2.1 x.2.2.2.2.2.2.2.2.1 x.2.2.2.2.2.2.2.2.2.1 x.2.2.2.2.2.2.2.2.2.2.1 x.2.2.2.2.2.2.2.2.2.2.2.1 x.2.2.2.2.2.2.2.2.2.2.2.2.1 x.2.2.2.2.2.2.2.2.2.2.2.2.2.1 x.2.2.2.2.2.2.2.2.2.2.2.2.2.2.1⟩

theorem cs_conv_At_ok (S : Nat → Addr) (N : Nat) : CallsOK Go.Proofs.Tryz.prog E S (cs_conv_At N) :=
  .cons (F_op_reads_1_ok S N) (.cons (F_tens_Wide_ok S N) (.cons (F_conv_Inside_ok S N) (.nil)))
noncomputable abbrev b_conv_At_2 : Code := (loopsOf b_conv_At).getD 2 .skip
theorem g_conv_At_2_ok (S : Nat → Addr) (N : Nat) : ∀ n x y, (fun (x : Val (slotsTy h_conv_At_2)) => g_conv_At_2 N n x.1 x.2.1 x.2.2.1 x.2.2.2.1 x.2.2.2.2.1 x.2.2.2.2.2.1 x.2.2.2.2.2.2.1 x.2.2.2.2.2.2.2.1 x.2.2.2.2.2.2.2.2.1 x.2.2.2.2.2.2.2.2.2.1 x.2.2.2.2.2.2.2.2.2.2.1 x.2.2.2.2.2.2.2.2.2.2.2.1 x.2.2.2.2.2.2.2.2.2.2.2.2.1 x.2.2.2.2.2.2.2.2.2.2.2.2.2.1 x.2.2.2.2.2.2.2.2.2.2.2.2.2.2.1 x.2.2.2.2.2.2.2.2.2.2.2.2.2.2.2.1 x.2.2.2.2.2.2.2.2.2.2.2.2.2.2.2.2.1 x.2.2.2.2.2.2.2.2.2.2.2.2.2.2.2.2.2.1) x = some y → LoopCon Go.Proofs.Tryz.prog E S b_conv_At_2 (encSlots h_conv_At_2 x) (encEx e_conv_At_2 y).1 (encEx e_conv_At_2 y).2 :=
  loop_spec E_ok mixed (cs_conv_At_ok S N) (all := loopsOf b_conv_At) (ls := []) (.nil) (i := 2) (by kernel_rfl) (inner_of (by kernel_rfl)) (head := h_conv_At_2) (ex := e_conv_At_2) (fun n (x : Val (slotsTy h_conv_At_2)) => g_conv_At_2 N n x.1 x.2.1 x.2.2.1 x.2.2.2.1 x.2.2.2.2.1 x.2.2.2.2.2.1 x.2.2.2.2.2.2.1 x.2.2.2.2.2.2.2.1 x.2.2.2.2.2.2.2.2.1 x.2.2.2.2.2.2.2.2.2.1 x.2.2.2.2.2.2.2.2.2.2.1 x.2.2.2.2.2.2.2.2.2.2.2.1 x.2.2.2.2.2.2.2.2.2.2.2.2.1 x.2.2.2.2.2.2.2.2.2.2.2.2.2.1 x.2.2.2.2.2.2.2.2.2.2.2.2.2.2.1 x.2.2.2.2.2.2.2.2.2.2.2.2.2.2.2.1 x.2.2.2.2.2.2.2.2.2.2.2.2.2.2.2.2.1 x.2.2.2.2.2.2.2.2.2.2.2.2.2.2.2.2.2.1) (fun _ => rfl) (fun n x => by kernel_rfl)
noncomputable abbrev b_conv_At_1 : Code := (loopsOf b_conv_At).getD 1 .skip
theorem g_conv_At_1_ok (S : Nat → Addr) (N : Nat) : ∀ n x y, (fun (x : Val (slotsTy h_conv_At_1)) => g_conv_At_1 N n x.1 x.2.1 x.2.2.1 x.2.2.2.1 x.2.2.2.2.1 x.2.2.2.2.2.1 x.2.2.2.2.2.2.1 x.2.2.2.2.2.2.2.1 x.2.2.2.2.2.2.2.2.1 x.2.2.2.2.2.2.2.2.2.1 x.2.2.2.2.2.2.2.2.2.2.1 x.2.2.2.2.2.2.2.2.2.2.2.1 x.2.2.2.2.2.2.2.2.2.2.2.2.1 x.2.2.2.2.2.2.2.2.2.2.2.2.2.1 x.2.2.2.2.2.2.2.2.2.2.2.2.2.2.1 x.2.2.2.2.2.2.2.2.2.2.2.2.2.2.2.1) x = some y → LoopCon Go.Proofs.Tryz.prog E S b_conv_At_1 (encSlots h_conv_At_1 x) (encEx e_conv_At_1 y).1 (encEx e_conv_At_1 y).2 :=
  loop_spec E_ok mixed (cs_conv_At_ok S N) (all := loopsOf b_conv_At) (ls := [l_conv_At_2 N]) (.cons (by kernel_rfl) (g_conv_At_2_ok S N N) (.nil)) (i := 1) (by kernel_rfl) (inner_of (by kernel_rfl)) (head := h_conv_At_1) (ex := e_conv_At_1) (fun n (x : Val (slotsTy h_conv_At_1)) => g_conv_At_1 N n x.1 x.2.1 x.2.2.1 x.2.2.2.1 x.2.2.2.2.1 x.2.2.2.2.2.1 x.2.2.2.2.2.2.1 x.2.2.2.2.2.2.2.1 x.2.2.2.2.2.2.2.2.1 x.2.2.2.2.2.2.2.2.2.1 x.2.2.2.2.2.2.2.2.2.2.1 x.2.2.2.2.2.2.2.2.2.2.2.1 x.2.2.2.2.2.2.2.2.2.2.2.2.1 x.2.2.2.2.2.2.2.2.2.2.2.2.2.1 x.2.2.2.2.2.2.2.2.2.2.2.2.2.2.1 x.2.2.2.2.2.2.2.2.2.2.2.2.2.2.2.1) (fun _ => rfl) (fun n x => by kernel_rfl)
noncomputable abbrev b_conv_At_0 : Code := (loopsOf b_conv_At).getD 0 .skip
theorem g_conv_At_0_ok (S : Nat → Addr) (N : Nat) : ∀ n x y, (fun (x : Val (slotsTy h_conv_At_0)) => g_conv_At_0 N n x.1 x.2.1 x.2.2.1 x.2.2.2.1 x.2.2.2.2.1 x.2.2.2.2.2.1 x.2.2.2.2.2.2.1 x.2.2.2.2.2.2.2.1 x.2.2.2.2.2.2.2.2.1 x.2.2.2.2.2.2.2.2.2.1 x.2.2.2.2.2.2.2.2.2.2.1 x.2.2.2.2.2.2.2.2.2.2.2.1 x.2.2.2.2.2.2.2.2.2.2.2.2.1 x.2.2.2.2.2.2.2.2.2.2.2.2.2.1 x.2.2.2.2.2.2.2.2.2.2.2.2.2.2.1) x = some y → LoopCon Go.Proofs.Tryz.prog E S b_conv_At_0 (encSlots h_conv_At_0 x) (encEx e_conv_At_0 y).1 (encEx e_conv_At_0 y).2 :=
  loop_spec E_ok mixed (cs_conv_At_ok S N) (all := loopsOf b_conv_At) (ls := [l_conv_At_2 N, l_conv_At_1 N]) (.cons (by kernel_rfl) (g_conv_At_2_ok S N N) (.cons (by kernel_rfl) (g_conv_At_1_ok S N N) (.nil))) (i := 0) (by kernel_rfl) (inner_of (by kernel_rfl)) (head := h_conv_At_0) (ex := e_conv_At_0) (fun n (x : Val (slotsTy h_conv_At_0)) => g_conv_At_0 N n x.1 x.2.1 x.2.2.1 x.2.2.2.1 x.2.2.2.2.1 x.2.2.2.2.2.1 x.2.2.2.2.2.2.1 x.2.2.2.2.2.2.2.1 x.2.2.2.2.2.2.2.2.1 x.2.2.2.2.2.2.2.2.2.1 x.2.2.2.2.2.2.2.2.2.2.1 x.2.2.2.2.2.2.2.2.2.2.2.1 x.2.2.2.2.2.2.2.2.2.2.2.2.1 x.2.2.2.2.2.2.2.2.2.2.2.2.2.1 x.2.2.2.2.2.2.2.2.2.2.2.2.2.2.1) (fun _ => rfl) (fun n x => by kernel_rfl)
theorem F_conv_At_ok (S : Nat → Addr) (N : Nat) : ∀ x y, (c_conv_At N).g x = some y → FCon Go.Proofs.Tryz.prog E S 58 ps_conv_At rs_conv_At x y := by
  intro x y h
  exact fun_spec E_ok mixed (cs_conv_At_ok S N) (f := 58) (fi := ⟨b_conv_At, 155, Go.Proofs.Tryz.f58.results.toList⟩) (by kernel_rfl) (ls := [l_conv_At_2 N, l_conv_At_1 N, l_conv_At_0 N]) (.cons (by kernel_rfl) (g_conv_At_2_ok S N N) (.cons (by kernel_rfl) (g_conv_At_1_ok S N N) (.cons (by kernel_rfl) (g_conv_At_0_ok S N N) (.nil)))) (by kernel_rfl) (ps := ps_conv_At) (rs := rs_conv_At) (Eq.trans (b := F_conv_At N x.1 x.2.1 x.2.2.1 x.2.2.2.1 x.2.2.2.2.1 x.2.2.2.2.2.1 x.2.2.2.2.2.2.1) (by kernel_rfl) h)

/-! lodge/pool.floor -/

abbrev ps_pool_floor : List Ty := [(.int .i64), (.int .i64)]
abbrev rs_pool_floor : List Slot := [.data (.int .i64)]
abbrev cs_pool_floor (N : Nat) : List CallSpec := []
noncomputable abbrev b_pool_floor : Code := (Go.Proofs.Tryz.f86.body).getD .skip

def F_pool_floor (N : Nat) (a_0 : Int) (b_1 : Int) : Option (Int × Unit) :=
  cond (decide (@Ne Int b_1 (0 : Int)))
    (
    cond (decide (@Ne Int b_1 (0 : Int)))
      (
      cond (decide ((Int.tmod a_0 b_1) < (0 : Int)))
        (
        some ((wi64 ((wi64 (Int.tdiv a_0 b_1)) - (1 : Int))), ()))
        (
        some ((wi64 (Int.tdiv a_0 b_1)), ())))
      (
      none))
    (
    none)

abbrev c_pool_floor (N : Nat) : CallSpec := ⟨86, ps_pool_floor, rs_pool_floor, fun x => F_pool_floor N x.1 x.2.1⟩

theorem cs_pool_floor_ok (S : Nat → Addr) (N : Nat) : CallsOK Go.Proofs.Tryz.prog E S (cs_pool_floor N) :=
  .nil
theorem F_pool_floor_ok (S : Nat → Addr) (N : Nat) : ∀ x y, (c_pool_floor N).g x = some y → FCon Go.Proofs.Tryz.prog E S 86 ps_pool_floor rs_pool_floor x y := by
  intro x y h
  exact fun_spec E_ok mixed (cs_pool_floor_ok S N) (f := 86) (fi := ⟨b_pool_floor, 16, Go.Proofs.Tryz.f86.results.toList⟩) (by kernel_rfl) (ls := []) (.nil) (by kernel_rfl) (ps := ps_pool_floor) (rs := rs_pool_floor) (Eq.trans (b := F_pool_floor N x.1 x.2.1) (by kernel_rfl) h)


end Go.Proofs.YtnblnlanicpagaaGreatDoor.Lg
