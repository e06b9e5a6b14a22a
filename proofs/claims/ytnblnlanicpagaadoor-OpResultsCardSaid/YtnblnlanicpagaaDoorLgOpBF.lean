/-
  The functions of the seat's program, as plain functions.
-/
import Derived.Test.YtnblnlanicpagaaDoorLgOpBFc
namespace Go.Proofs.YtnblnlanicpagaaDoor.Lg
open Go Go.Eng Go.Proofs
set_option maxRecDepth 100000

/-! lodge/lodgeref3.Result -/

abbrev ps_lodgeref3_Result : List Ty := [(.int .i64), (.sl (.int .i64)), (.sl (.st (.pair (.sl (.int .i64)) .bool)))]
abbrev rs_lodgeref3_Result : List Slot := [.ag [.sl (.int .i64), .d .bool], .data (.int .i64)]
abbrev cs_lodgeref3_Result (N : Nat) : List CallSpec := [c_lodgeref3_Known N, c_lodgeref3_ValidDesc N, c_lodgeref_Ints N, c_lodgeref3_ElemResult N, c_lodgeref3_Ins N, c_lodgeref3_Args N, c_lodgeref3_seen N, c_lodgeref3_MatResult N, c_lodgeref3_ConvResult N, c_lodgeref3_PoolResult N, c_lodgeref3_SoftResult N, c_lodgeref3_Elems N]
noncomputable abbrev b_lodgeref3_Result : Code := (Go.Proofs.Tryd.f12.body).getD .skip

abbrev j_lodgeref3_Result : Joins := [(19, [(AX.normal, [.data (.int .i64), .data (.sl (.int .i64)), .data (.sl (.st (.pair (.sl (.int .i64)) .bool))), .dead, .dead, .dead, .box [.sl (.int .i64), .d .bool], .dead, .dead, .dead, .dead, .dead, .dead, .dead, .dead, .dead, .dead, .dead, .dead, .dead, .dead, .dead, .dead, .dead, .dead, .dead, .dead, .dead, .dead, .dead, .dead, .dead, .dead, .dead, .dead, .dead, .dead, .dead, .dead, .dead, .dead, .dead, .dead, .dead, .dead, .dead, .dead, .dead, .dead, .dead, .dead, .dead, .dead, .dead, .dead, .dead, .dead, .dead, .dead, .dead, .dead, .dead, .dead, .dead, .dead, .dead, .dead, .dead, .dead, .dead, .dead, .dead, .dead, .dead, .dead, .dead, .dead, .dead, .dead, .dead, .data .bool, .dead, .dead, .dead, .dead, .dead, .dead, .dead, .dead, .dead, .dead, .dead, .dead, .dead, .dead, .dead, .dead, .dead, .dead, .dead, .dead, .dead, .dead, .dead, .dead, .dead, .dead, .dead, .dead, .dead, .dead, .dead, .dead, .dead, .dead, .dead, .dead, .dead, .dead, .dead, .dead, .dead, .dead, .dead, .dead, .dead, .dead, .dead, .dead, .dead, .dead, .dead, .dead, .dead, .dead, .dead, .dead, .dead, .dead, .dead, .dead])]),
  (16, [(AX.normal, [.data (.int .i64), .data (.sl (.int .i64)), .data (.sl (.st (.pair (.sl (.int .i64)) .bool))), .dead, .dead, .dead, .box [.sl (.int .i64), .d .bool], .dead, .dead, .dead, .dead, .dead, .dead, .dead, .dead, .dead, .dead, .dead, .dead, .dead, .dead, .dead, .dead, .dead, .dead, .dead, .dead, .dead, .dead, .dead, .dead, .dead, .dead, .dead, .dead, .dead, .dead, .dead, .dead, .dead, .data (.int .i64), .dead, .dead, .dead, .dead, .dead, .dead, .dead, .dead, .dead, .dead, .dead, .dead, .dead, .dead, .dead, .dead, .dead, .dead, .dead, .dead, .dead, .dead, .dead, .dead, .dead, .dead, .dead, .dead, .dead, .data .bool, .dead, .dead, .dead, .dead, .dead, .dead, .dead, .dead, .dead, .dead, .dead, .dead, .dead, .dead, .dead, .dead, .dead, .dead, .dead, .dead, .dead, .dead, .dead, .dead, .dead, .dead, .dead, .dead, .dead, .dead, .dead, .dead, .dead, .dead, .dead, .dead, .dead, .dead, .dead, .dead, .dead, .dead, .dead, .dead, .dead, .dead, .dead, .dead, .dead, .dead, .dead, .dead, .dead, .dead, .dead, .dead, .dead, .dead, .dead, .dead, .dead, .dead, .dead, .dead, .dead, .dead, .dead, .dead, .dead, .dead])]),
  (8, [(AX.normal, [.data (.int .i64), .data (.sl (.int .i64)), .data (.sl (.st (.pair (.sl (.int .i64)) .bool))), .dead, .dead, .dead, .box [.sl (.int .i64), .d .bool], .dead, .dead, .dead, .dead, .dead, .dead, .dead, .dead, .dead, .dead, .dead, .dead, .dead, .dead, .dead, .dead, .dead, .dead, .dead, .dead, .dead, .dead, .dead, .dead, .dead, .dead, .dead, .dead, .dead, .dead, .dead, .data .bool, .dead, .dead, .dead, .dead, .dead, .dead, .dead, .dead, .dead, .dead, .dead, .dead, .dead, .dead, .dead, .dead, .dead, .dead, .dead, .dead, .dead, .dead, .dead, .dead, .dead, .dead, .dead, .dead, .dead, .dead, .dead, .dead, .dead, .dead, .dead, .dead, .dead, .dead, .dead, .dead, .dead, .dead, .dead, .dead, .dead, .dead, .dead, .dead, .dead, .dead, .dead, .dead, .dead, .dead, .dead, .dead, .dead, .dead, .dead, .dead, .dead, .dead, .dead, .dead, .dead, .dead, .dead, .dead, .dead, .dead, .dead, .dead, .dead, .dead, .dead, .dead, .dead, .dead, .dead, .dead, .dead, .dead, .dead, .dead, .dead, .dead, .dead, .dead, .dead, .dead, .dead, .dead, .dead, .dead, .dead, .dead, .dead, .dead, .dead, .dead, .dead, .dead])])]
def F_lodgeref3_Result (N : Nat) (op_0 : Int) (args_1 : List Int) (ins_2 : List ((List Int × Bool))) : Option ((List Int × (Bool × Unit)) × (Int × Unit)) :=
  Option.bind (F_lodgeref3_Known N op_0) fun y0 =>
  cond (Bool.not (y0).1)
    (
    some ((([] : List Int), (false, ())), ((103 : Int), ())))
    (
    cond (decide (op_0 ≤ (11 : Int)))
      (
      Option.bind (F_lodgeref3_ElemResult N op_0 args_1 ins_2) fun y1 =>
      cond (decide ((List.length ((y1).1).1) = (List.length ((y1).1).1)))
        (
        some y1)
        (
        none))
      (
      Option.bind (
          Option.bind (F_lodgeref3_Ins N op_0) fun y2 =>
          cond (decide (@Ne Int (Nat.cast (List.length ins_2) : Int) (y2).1))
            (
            some (op_0, (args_1, (ins_2, ((([] : List Int), (false, ())), (true, ()))))))
            (
            cond (decide (@Ne Int op_0 (18 : Int)))
              (
              Option.bind (F_lodgeref3_Args N op_0) fun y3 =>
              some (op_0, (args_1, (ins_2, ((([] : List Int), (false, ())), ((decide (@Ne Int (Nat.cast (List.length args_1) : Int) (y3).1)), ()))))))
              (
              some (op_0, (args_1, (ins_2, ((([] : List Int), (false, ())), (false, ())))))))) fun y4 =>
      cond (((((y4).2).2).2).2).1
        (
        some ((([] : List Int), (false, ())), ((101 : Int), ())))
        (
        cond (decide ((y4).1 = (12 : Int)))
          (
          cond (decide (0 < (List.length ((y4).2).1)))
            (
            cond (decide (1 < (List.length ((y4).2).1)))
              (
              cond (decide (0 < (List.length (((y4).2).2).1)))
                (
                cond (decide (1 < (List.length (((y4).2).2).1)))
                  (
                  Option.bind (F_lodgeref3_MatResult N (List.getD ((y4).2).1 0 (0 : Int)) (List.getD ((y4).2).1 1 (0 : Int)) (List.getD (((y4).2).2).1 0 (([] : List Int), false)) (List.getD (((y4).2).2).1 1 (([] : List Int), false))) fun y5 =>
                  cond (decide ((List.length ((y5).1).1) = (List.length ((y5).1).1)))
                    (
                    some y5)
                    (
                    none))
                  (
                  none))
                (
                none))
              (
              none))
            (
            none))
          (
          cond (decide ((y4).1 = (13 : Int)))
            (
            cond (decide (0 < (List.length (((y4).2).2).1)))
              (
              cond (decide (1 < (List.length (((y4).2).2).1)))
                (
                Option.bind (F_lodgeref3_ConvResult N ((y4).2).1 (List.getD (((y4).2).2).1 0 (([] : List Int), false)) (List.getD (((y4).2).2).1 1 (([] : List Int), false))) fun y6 =>
                cond (decide ((List.length ((y6).1).1) = (List.length ((y6).1).1)))
                  (
                  some y6)
                  (
                  none))
                (
                none))
              (
              none))
            (
            Option.bind (
                cond (decide ((y4).1 = (14 : Int)))
                  (
                  cond (decide ((List.length (((((y4).2).2).2).1).1) = (List.length (((((y4).2).2).2).1).1)))
                    (
                    some ((y4).1, (((y4).2).1, ((((y4).2).2).1, (((((y4).2).2).2).1, ((y4).1, (true, ())))))))
                    (
                    none))
                  (
                  cond (decide ((List.length (((((y4).2).2).2).1).1) = (List.length (((((y4).2).2).2).1).1)))
                    (
                    some ((y4).1, (((y4).2).1, ((((y4).2).2).1, (((((y4).2).2).2).1, ((y4).1, ((decide ((y4).1 = (15 : Int))), ())))))))
                    (
                    none))) fun y7 =>
            cond ((((((y7).2).2).2).2).2).1
              (
              cond (decide (0 < (List.length (((y7).2).2).1)))
                (
                Option.bind (F_lodgeref3_PoolResult N ((y7).2).1 (List.getD (((y7).2).2).1 0 (([] : List Int), false))) fun y8 =>
                cond (decide ((List.length ((y8).1).1) = (List.length ((y8).1).1)))
                  (
                  some y8)
                  (
                  none))
                (
                none))
              (
              Option.bind (
                  cond (decide ((((((y7).2).2).2).2).1 = (16 : Int)))
                    (
                    cond (decide ((List.length (((((y7).2).2).2).1).1) = (List.length (((((y7).2).2).2).1).1)))
                      (
                      some ((y7).1, (((y7).2).1, ((((y7).2).2).1, (((((y7).2).2).2).1, (true, ()))))))
                      (
                      none))
                    (
                    cond (decide ((((((y7).2).2).2).2).1 = (17 : Int)))
                      (
                      cond (decide ((List.length (((((y7).2).2).2).1).1) = (List.length (((((y7).2).2).2).1).1)))
                        (
                        some ((y7).1, (((y7).2).1, ((((y7).2).2).1, (((((y7).2).2).2).1, (true, ()))))))
                        (
                        none))
                      (
                      cond (decide ((((((y7).2).2).2).2).1 = (19 : Int)))
                        (
                        cond (decide ((List.length (((((y7).2).2).2).1).1) = (List.length (((((y7).2).2).2).1).1)))
                          (
                          some ((y7).1, (((y7).2).1, ((((y7).2).2).1, (((((y7).2).2).2).1, (true, ()))))))
                          (
                          none))
                        (
                        cond (decide ((List.length (((((y7).2).2).2).1).1) = (List.length (((((y7).2).2).2).1).1)))
                          (
                          some ((y7).1, (((y7).2).1, ((((y7).2).2).1, (((((y7).2).2).2).1, ((decide ((((((y7).2).2).2).2).1 = (20 : Int))), ()))))))
                          (
                          none))))) fun y9 =>
              cond (((((y9).2).2).2).2).1
                (
                Option.bind (F_lodgeref3_SoftResult N (y9).1 (((y9).2).2).1) fun y10 =>
                cond (decide ((List.length ((y10).1).1) = (List.length ((y10).1).1)))
                  (
                  some y10)
                  (
                  none))
                (
                cond (decide (0 < (List.length (((y9).2).2).1)))
                  (
                  Option.bind (F_lodgeref3_ValidDesc N (List.getD (((y9).2).2).1 0 (([] : List Int), false))) fun y11 =>
                  cond (decide (@Ne Int (y11).1 (0 : Int)))
                    (
                    some ((([] : List Int), (false, ())), y11))
                    (
                    cond (decide ((y9).1 = (21 : Int)))
                      (
                      cond (decide (@Ne Int (Nat.cast (List.length ((List.getD (((y9).2).2).1 0 (([] : List Int), false))).1) : Int) (2 : Int)))
                        (
                        some ((([] : List Int), (false, ())), ((101 : Int), ())))
                        (
                        cond (decide (1 < (List.length ((List.getD (((y9).2).2).1 0 (([] : List Int), false))).1)))
                          (
                          cond (decide (0 < (List.length ((List.getD (((y9).2).2).1 0 (([] : List Int), false))).1)))
                            (
                            Option.bind (F_lodgeref3_seen N (((List.getD ((List.getD (((y9).2).2).1 0 (([] : List Int), false))).1 1 (0 : Int)) :: ((List.getD ((List.getD (((y9).2).2).1 0 (([] : List Int), false))).1 0 (0 : Int)) :: ([] : List Int))), ((List.getD (((y9).2).2).1 0 (([] : List Int), false))).2)) fun y12 =>
                            cond (decide ((List.length ((y12).1).1) = (List.length ((y12).1).1)))
                              (
                              some y12)
                              (
                              none))
                            (
                            none))
                          (
                          none)))
                      (
                      Option.bind (F_lodgeref_Ints N ((y9).2).1) fun y13 =>
                      cond (decide (((0 : Nat) + (List.length (y13).1)) ≤ (List.length (y13).1)))
                        (
                        Option.bind (F_lodgeref3_ValidDesc N ((List.take (List.length (y13).1) (y13).1), ((List.getD (((y9).2).2).1 0 (([] : List Int), false))).2)) fun y14 =>
                        cond (decide (@Ne Int (y14).1 (0 : Int)))
                          (
                          some ((([] : List Int), (false, ())), y14))
                          (
                          cond (decide (((0 : Nat) + (List.length (y13).1)) ≤ (List.length (y13).1)))
                            (
                            Option.bind (F_lodgeref3_Elems N (List.take (List.length (y13).1) (y13).1)) fun y15 =>
                            Option.bind (F_lodgeref3_Elems N ((List.getD (((y9).2).2).1 0 (([] : List Int), false))).1) fun y16 =>
                            cond (decide (@Ne Int (y15).1 (y16).1))
                              (
                              some ((([] : List Int), (false, ())), ((101 : Int), ())))
                              (
                              cond (decide ((List.length (y13).1) = (List.length (y13).1)))
                                (
                                some (((y13).1, (((List.getD (((y9).2).2).1 0 (([] : List Int), false))).2, ())), ((0 : Int), ())))
                                (
                                none)))
                            (
                            none)))
                        (
                        none))))
                  (
                  none))))))))

abbrev c_lodgeref3_Result (N : Nat) : CallSpec := ⟨12, ps_lodgeref3_Result, rs_lodgeref3_Result, fun x => F_lodgeref3_Result N x.1 x.2.1 x.2.2.1⟩

theorem cs_lodgeref3_Result_ok (S : Nat → Addr) (N : Nat) : CallsOK Go.Proofs.Tryd.prog E S (cs_lodgeref3_Result N) :=
  .cons (F_lodgeref3_Known_ok S N) (.cons (F_lodgeref3_ValidDesc_ok S N) (.cons (F_lodgeref_Ints_ok S N) (.cons (F_lodgeref3_ElemResult_ok S N) (.cons (F_lodgeref3_Ins_ok S N) (.cons (F_lodgeref3_Args_ok S N) (.cons (F_lodgeref3_seen_ok S N) (.cons (F_lodgeref3_MatResult_ok S N) (.cons (F_lodgeref3_ConvResult_ok S N) (.cons (F_lodgeref3_PoolResult_ok S N) (.cons (F_lodgeref3_SoftResult_ok S N) (.cons (F_lodgeref3_Elems_ok S N) (.nil))))))))))))
theorem F_lodgeref3_Result_ok (S : Nat → Addr) (N : Nat) : ∀ x y, (c_lodgeref3_Result N).g x = some y → FCon Go.Proofs.Tryd.prog E S 12 ps_lodgeref3_Result rs_lodgeref3_Result x y := by
  intro x y h
  exact fun_specJ E_ok mixed (cs_lodgeref3_Result_ok S N) (f := 12) (fi := ⟨b_lodgeref3_Result, 141, Go.Proofs.Tryd.f12.results.toList⟩) (by kernel_rfl) (ls := []) (.nil) (js := j_lodgeref3_Result) (by kernel_rfl) (ps := ps_lodgeref3_Result) (rs := rs_lodgeref3_Result) (Eq.trans (b := F_lodgeref3_Result N x.1 x.2.1 x.2.2.1) (by kernel_rfl) h)

/-! lodge/lodgeref3.Unit -/

abbrev ps_lodgeref3_Unit : List Ty := [(.int .i64), (.sl (.int .i64)), (.sl (.st (.pair (.sl (.int .i64)) .bool)))]
abbrev rs_lodgeref3_Unit : List Slot := [.data (.int .i64), .data (.int .i64)]
abbrev cs_lodgeref3_Unit (N : Nat) : List CallSpec := [c_lodgeref3_Result N]
noncomputable abbrev b_lodgeref3_Unit : Code := (Go.Proofs.Tryd.f14.body).getD .skip

def F_lodgeref3_Unit (N : Nat) (op_0 : Int) (args_1 : List Int) (ins_2 : List ((List Int × Bool))) : Option (Int × (Int × Unit)) :=
  Option.bind (F_lodgeref3_Result N op_0 args_1 ins_2) fun y0 =>
  cond (decide (@Ne Int ((y0).2).1 (0 : Int)))
    (
    some ((0 : Int), (y0).2))
    (
    cond (decide (0 < (List.length ins_2)))
      (
      cond (decide (op_0 = (10 : Int)))
        (
        some ((2 : Int), ((0 : Int), ())))
        (
        cond (decide (op_0 = (12 : Int)))
          (
          cond (decide (1 < (List.length ((List.getD ins_2 0 (([] : List Int), false))).1)))
            (
            some ((List.getD ((List.getD ins_2 0 (([] : List Int), false))).1 1 (0 : Int)), ((0 : Int), ())))
            (
            none))
          (
          cond (decide (op_0 = (13 : Int)))
            (
            cond (decide (1 < (List.length ins_2)))
              (
              cond (decide (0 < (List.length ((List.getD ins_2 1 (([] : List Int), false))).1)))
                (
                cond (decide (1 < (List.length ((List.getD ins_2 1 (([] : List Int), false))).1)))
                  (
                  cond (decide (2 < (List.length ((List.getD ins_2 1 (([] : List Int), false))).1)))
                    (
                    some ((wi64 ((wi64 ((List.getD ((List.getD ins_2 1 (([] : List Int), false))).1 0 (0 : Int)) * (List.getD ((List.getD ins_2 1 (([] : List Int), false))).1 1 (0 : Int)))) * (List.getD ((List.getD ins_2 1 (([] : List Int), false))).1 2 (0 : Int)))), ((0 : Int), ())))
                    (
                    none))
                  (
                  none))
                (
                none))
              (
              none))
            (
            cond (decide (op_0 = (14 : Int)))
              (
              cond (decide (0 < (List.length args_1)))
                (
                cond (decide (0 < (List.length args_1)))
                  (
                  some ((wi64 ((List.getD args_1 0 (0 : Int)) * (List.getD args_1 0 (0 : Int)))), ((0 : Int), ())))
                  (
                  none))
                (
                none))
              (
              cond (decide (op_0 = (15 : Int)))
                (
                cond (decide (0 < (List.length args_1)))
                  (
                  cond (decide (0 < (List.length args_1)))
                    (
                    some ((wi64 ((List.getD args_1 0 (0 : Int)) * (List.getD args_1 0 (0 : Int)))), ((0 : Int), ())))
                    (
                    none))
                  (
                  none))
                (
                cond (decide (op_0 = (16 : Int)))
                  (
                  cond (decide ((0 : Int) ≤ (wi64 ((Nat.cast (List.length ((List.getD ins_2 0 (([] : List Int), false))).1) : Int) - (1 : Int)))))
                    (
                    cond (decide ((Int.toNat (wi64 ((Nat.cast (List.length ((List.getD ins_2 0 (([] : List Int), false))).1) : Int) - (1 : Int)))) < (List.length ((List.getD ins_2 0 (([] : List Int), false))).1)))
                      (
                      some ((List.getD ((List.getD ins_2 0 (([] : List Int), false))).1 (Int.toNat (wi64 ((Nat.cast (List.length ((List.getD ins_2 0 (([] : List Int), false))).1) : Int) - (1 : Int)))) (0 : Int)), ((0 : Int), ())))
                      (
                      none))
                    (
                    none))
                  (
                  cond (decide (op_0 = (19 : Int)))
                    (
                    cond (decide ((0 : Int) ≤ (wi64 ((Nat.cast (List.length ((List.getD ins_2 0 (([] : List Int), false))).1) : Int) - (1 : Int)))))
                      (
                      cond (decide ((Int.toNat (wi64 ((Nat.cast (List.length ((List.getD ins_2 0 (([] : List Int), false))).1) : Int) - (1 : Int)))) < (List.length ((List.getD ins_2 0 (([] : List Int), false))).1)))
                        (
                        some ((List.getD ((List.getD ins_2 0 (([] : List Int), false))).1 (Int.toNat (wi64 ((Nat.cast (List.length ((List.getD ins_2 0 (([] : List Int), false))).1) : Int) - (1 : Int)))) (0 : Int)), ((0 : Int), ())))
                        (
                        none))
                      (
                      none))
                    (
                    cond (decide (op_0 = (20 : Int)))
                      (
                      cond (decide ((0 : Int) ≤ (wi64 ((Nat.cast (List.length ((List.getD ins_2 0 (([] : List Int), false))).1) : Int) - (1 : Int)))))
                        (
                        cond (decide ((Int.toNat (wi64 ((Nat.cast (List.length ((List.getD ins_2 0 (([] : List Int), false))).1) : Int) - (1 : Int)))) < (List.length ((List.getD ins_2 0 (([] : List Int), false))).1)))
                          (
                          some ((List.getD ((List.getD ins_2 0 (([] : List Int), false))).1 (Int.toNat (wi64 ((Nat.cast (List.length ((List.getD ins_2 0 (([] : List Int), false))).1) : Int) - (1 : Int)))) (0 : Int)), ((0 : Int), ())))
                          (
                          none))
                        (
                        none))
                      (
                      some ((1 : Int), ((0 : Int), ())))))))))))
      (
      none))

abbrev c_lodgeref3_Unit (N : Nat) : CallSpec := ⟨14, ps_lodgeref3_Unit, rs_lodgeref3_Unit, fun x => F_lodgeref3_Unit N x.1 x.2.1 x.2.2.1⟩

theorem cs_lodgeref3_Unit_ok (S : Nat → Addr) (N : Nat) : CallsOK Go.Proofs.Tryd.prog E S (cs_lodgeref3_Unit N) :=
  .cons (F_lodgeref3_Result_ok S N) (.nil)
theorem F_lodgeref3_Unit_ok (S : Nat → Addr) (N : Nat) : ∀ x y, (c_lodgeref3_Unit N).g x = some y → FCon Go.Proofs.Tryd.prog E S 14 ps_lodgeref3_Unit rs_lodgeref3_Unit x y := by
  intro x y h
  exact fun_spec E_ok mixed (cs_lodgeref3_Unit_ok S N) (f := 14) (fi := ⟨b_lodgeref3_Unit, 71, Go.Proofs.Tryd.f14.results.toList⟩) (by kernel_rfl) (ls := []) (.nil) (by kernel_rfl) (ps := ps_lodgeref3_Unit) (rs := rs_lodgeref3_Unit) (Eq.trans (b := F_lodgeref3_Unit N x.1 x.2.1 x.2.2.1) (by kernel_rfl) h)

/-! lodge/lodgeref.Bare -/

abbrev ps_lodgeref_Bare : List Ty := [(.int .i64)]
abbrev rs_lodgeref_Bare : List Slot := [.data (.st (.pair (.int .i64) (.pair .bool (.int .i64))))]
abbrev cs_lodgeref_Bare (N : Nat) : List CallSpec := []
noncomputable abbrev b_lodgeref_Bare : Code := (Go.Proofs.Tryd.f51.body).getD .skip

def F_lodgeref_Bare (N : Nat) (code_0 : Int) : Option ((Int × (Bool × Int)) × Unit) :=
  some ((code_0, (false, (0 : Int))), ())

abbrev c_lodgeref_Bare (N : Nat) : CallSpec := ⟨51, ps_lodgeref_Bare, rs_lodgeref_Bare, fun x => F_lodgeref_Bare N x.1⟩

theorem cs_lodgeref_Bare_ok (S : Nat → Addr) (N : Nat) : CallsOK Go.Proofs.Tryd.prog E S (cs_lodgeref_Bare N) :=
  .nil
theorem F_lodgeref_Bare_ok (S : Nat → Addr) (N : Nat) : ∀ x y, (c_lodgeref_Bare N).g x = some y → FCon Go.Proofs.Tryd.prog E S 51 ps_lodgeref_Bare rs_lodgeref_Bare x y := by
  intro x y h
  exact fun_spec E_ok mixed (cs_lodgeref_Bare_ok S N) (f := 51) (fi := ⟨b_lodgeref_Bare, 5, Go.Proofs.Tryd.f51.results.toList⟩) (by kernel_rfl) (ls := []) (.nil) (by kernel_rfl) (ps := ps_lodgeref_Bare) (rs := rs_lodgeref_Bare) (Eq.trans (b := F_lodgeref_Bare N x.1) (by kernel_rfl) h)

/-! lodge/lodgeref.None -/

abbrev ps_lodgeref_None : List Ty := []
abbrev rs_lodgeref_None : List Slot := [.data (.st (.pair (.int .i64) (.pair .bool (.int .i64))))]
abbrev cs_lodgeref_None (N : Nat) : List CallSpec := []
noncomputable abbrev b_lodgeref_None : Code := (Go.Proofs.Tryd.f86.body).getD .skip

def F_lodgeref_None (N : Nat)  : Option ((Int × (Bool × Int)) × Unit) :=
  some (((0 : Int), (false, (0 : Int))), ())

abbrev c_lodgeref_None (N : Nat) : CallSpec := ⟨86, ps_lodgeref_None, rs_lodgeref_None, fun x => F_lodgeref_None N ⟩

theorem cs_lodgeref_None_ok (S : Nat → Addr) (N : Nat) : CallsOK Go.Proofs.Tryd.prog E S (cs_lodgeref_None N) :=
  .nil
theorem F_lodgeref_None_ok (S : Nat → Addr) (N : Nat) : ∀ x y, (c_lodgeref_None N).g x = some y → FCon Go.Proofs.Tryd.prog E S 86 ps_lodgeref_None rs_lodgeref_None x y := by
  intro x y h
  exact fun_spec E_ok mixed (cs_lodgeref_None_ok S N) (f := 86) (fi := ⟨b_lodgeref_None, 2, Go.Proofs.Tryd.f86.results.toList⟩) (by kernel_rfl) (ls := []) (.nil) (by kernel_rfl) (ps := ps_lodgeref_None) (rs := rs_lodgeref_None) (Eq.trans (b := F_lodgeref_None N ) (by kernel_rfl) h)

/-! lodge/lodgesee.sentinels -/

abbrev ps_lodgesee_sentinels : List Ty := []
abbrev rs_lodgesee_sentinels : List Slot := [.sl .err]
abbrev cs_lodgesee_sentinels (N : Nat) : List CallSpec := []
noncomputable abbrev b_lodgesee_sentinels : Code := (Go.Proofs.Tryd.f95.body).getD .skip

def F_lodgesee_sentinels (N : Nat)  : Option (List Er × Unit) :=
  some (((Go.Eng.Er.s ErrShape) :: ((Go.Eng.Er.s ErrRange) :: ((Go.Eng.Er.s ErrKind) :: ((Go.Eng.Er.s ErrMany) :: ((Go.Eng.Er.s ErrEnd) :: ((Go.Eng.Er.s ErrRoom) :: ((Go.Eng.Er.s ErrNone) :: ((Go.Eng.Er.s ErrAlias) :: ((Go.Eng.Er.s ErrCost) :: ((Go.Eng.Er.s ErrJump) :: ((Go.Eng.Er.s ErrCycle) :: ((Go.Eng.Er.s ErrFuel) :: ((Go.Eng.Er.s ErrFull) :: ((Go.Eng.Er.s ErrQuota) :: ((Go.Eng.Er.s ErrCap) :: ((Go.Eng.Er.s ErrStale) :: ((Go.Eng.Er.s ErrTag) :: ((Go.Eng.Er.s ErrOld) :: ((Go.Eng.Er.s ErrTenant) :: ((Go.Eng.Er.s ErrWord) :: ((Go.Eng.Er.s ErrNumber) :: ([] : List Go.Eng.Er)))))))))))))))))))))), ())

abbrev c_lodgesee_sentinels (N : Nat) : CallSpec := ⟨95, ps_lodgesee_sentinels, rs_lodgesee_sentinels, fun x => F_lodgesee_sentinels N ⟩

theorem cs_lodgesee_sentinels_ok (S : Nat → Addr) (N : Nat) : CallsOK Go.Proofs.Tryd.prog E S (cs_lodgesee_sentinels N) :=
  .nil
theorem F_lodgesee_sentinels_ok (S : Nat → Addr) (N : Nat) : ∀ x y, (c_lodgesee_sentinels N).g x = some y → FCon Go.Proofs.Tryd.prog E S 95 ps_lodgesee_sentinels rs_lodgesee_sentinels x y := by
  intro x y h
  exact fun_spec E_ok mixed (cs_lodgesee_sentinels_ok S N) (f := 95) (fi := ⟨b_lodgesee_sentinels, 23, Go.Proofs.Tryd.f95.results.toList⟩) (by kernel_rfl) (ls := []) (.nil) (by kernel_rfl) (ps := ps_lodgesee_sentinels) (rs := rs_lodgesee_sentinels) (Eq.trans (b := F_lodgesee_sentinels N ) (by kernel_rfl) h)

/-! lodge/lodgesee.Alike -/

abbrev ps_lodgesee_Alike : List Ty := [.err, .err]
abbrev rs_lodgesee_Alike : List Slot := [.data .bool]
abbrev cs_lodgesee_Alike (N : Nat) : List CallSpec := []
noncomputable abbrev b_lodgesee_Alike : Code := (Go.Proofs.Tryd.f96.body).getD .skip

def F_lodgesee_Alike (N : Nat) (a_0 : Er) (b_1 : Er) : Option (Bool × Unit) :=
  cond (Go.Eng.Er.isNil a_0)
    (
    cond (Go.Eng.Er.isNil a_0)
      (
      some ((Go.Eng.Er.isNil b_1), ()))
      (
      some (false, ())))
    (
    cond (Go.Eng.Er.isNil b_1)
      (
      cond (Go.Eng.Er.isNil a_0)
        (
        some ((Go.Eng.Er.isNil b_1), ()))
        (
        some (false, ())))
      (
      cond (Go.Eng.okEq a_0 b_1)
        (
        some ((decide (a_0 = b_1)), ()))
        (
        none)))

abbrev c_lodgesee_Alike (N : Nat) : CallSpec := ⟨96, ps_lodgesee_Alike, rs_lodgesee_Alike, fun x => F_lodgesee_Alike N x.1 x.2.1⟩

theorem cs_lodgesee_Alike_ok (S : Nat → Addr) (N : Nat) : CallsOK Go.Proofs.Tryd.prog E S (cs_lodgesee_Alike N) :=
  .nil
theorem F_lodgesee_Alike_ok (S : Nat → Addr) (N : Nat) : ∀ x y, (c_lodgesee_Alike N).g x = some y → FCon Go.Proofs.Tryd.prog E S 96 ps_lodgesee_Alike rs_lodgesee_Alike x y := by
  intro x y h
  exact fun_spec E_ok mixed (cs_lodgesee_Alike_ok S N) (f := 96) (fi := ⟨b_lodgesee_Alike, 20, Go.Proofs.Tryd.f96.results.toList⟩) (by kernel_rfl) (ls := []) (.nil) (by kernel_rfl) (ps := ps_lodgesee_Alike) (rs := rs_lodgesee_Alike) (Eq.trans (b := F_lodgesee_Alike N x.1 x.2.1) (by kernel_rfl) h)

/-! lodge/lodgesee.sentinel -/

abbrev ps_lodgesee_sentinel : List Ty := [.err]
abbrev rs_lodgesee_sentinel : List Slot := [.data (.int .i64)]
abbrev cs_lodgesee_sentinel (N : Nat) : List CallSpec := [c_lodgesee_sentinels N, c_lodgesee_Alike N]
noncomputable abbrev b_lodgesee_sentinel : Code := (Go.Proofs.Tryd.f87.body).getD .skip

abbrev h_lodgesee_sentinel_0 : List Slot := [.data .err, .dead, .dead, .sl .err, .data (.int .i64), .dead, .dead, .dead, .dead, .dead, .dead, .dead, .dead, .dead, .dead, .dead, .dead, .dead, .dead, .dead]
abbrev e_lodgesee_sentinel_0 : List (AX × List Slot) := [(AX.exit 0, [.dead, .dead, .dead, .dead, .dead, .dead, .dead, .dead, .dead, .dead, .dead, .dead, .dead, .dead, .dead, .dead, .dead, .dead, .dead, .dead]), (AX.ret, [.dead, .dead, .data (.int .i64), .dead, .dead, .dead, .dead, .dead, .dead, .dead, .dead, .dead, .dead, .dead, .dead, .dead, .dead, .dead, .dead, .dead])]
def g_lodgesee_sentinel_0 (N : Nat) : Nat → Er → List Er → Int → Option (Sum Unit (Int × Unit))
  | 0, _, _, _ => none
  | n + 1, e_0, l_3, i_4 =>
    cond (decide (i_4 < (Nat.cast (List.length l_3) : Int)))
      (
      cond (decide ((0 : Int) ≤ i_4))
        (
        cond (decide ((Int.toNat i_4) < (List.length l_3)))
          (
          cond (decide (((0 : Nat) + (Int.toNat i_4)) < (List.length l_3)))
            (
            Option.bind (F_lodgesee_Alike N e_0 (List.getD l_3 ((0 : Nat) + (Int.toNat i_4)) Go.Eng.Er.nil)) fun y2 =>
            cond (y2).1
              (
              some (Sum.inr ((wi64 ((101 : Int) + i_4)), ())))
              (
              cond (decide ((List.length l_3) = (List.length l_3)))
                (
                (g_lodgesee_sentinel_0 N n e_0 l_3 (wi64 (i_4 + (1 : Int)))))
                (
                none)))
            (
            none))
          (
          none))
        (
        none))
      (
      some (Sum.inl ()))

def F_lodgesee_sentinel (N : Nat) (e_0 : Er) : Option (Int × Unit) :=
  Option.bind (F_lodgesee_sentinels N) fun y0 =>
  cond (decide ((List.length (y0).1) = (List.length (y0).1)))
    (
    Option.bind (g_lodgesee_sentinel_0 N N e_0 (y0).1 (0 : Int)) fun y1 =>
    Sum.elim (fun y2 =>
      some ((-(1 : Int)), ()))
      (fun y3 =>
      some y3) y1)
    (
    none)

abbrev c_lodgesee_sentinel (N : Nat) : CallSpec := ⟨87, ps_lodgesee_sentinel, rs_lodgesee_sentinel, fun x => F_lodgesee_sentinel N x.1⟩
abbrev l_lodgesee_sentinel_0 (N : Nat) : LoopSpec := ⟨0, h_lodgesee_sentinel_0, e_lodgesee_sentinel_0, fun x => g_lodgesee_sentinel_0 N N x.1 x.2.1 x.2.2.1⟩

theorem cs_lodgesee_sentinel_ok (S : Nat → Addr) (N : Nat) : CallsOK Go.Proofs.Tryd.prog E S (cs_lodgesee_sentinel N) :=
  .cons (F_lodgesee_sentinels_ok S N) (.cons (F_lodgesee_Alike_ok S N) (.nil))
noncomputable abbrev b_lodgesee_sentinel_0 : Code := (loopsOf b_lodgesee_sentinel).getD 0 .skip
theorem g_lodgesee_sentinel_0_ok (S : Nat → Addr) (N : Nat) : ∀ n x y, (fun (x : Val (slotsTy h_lodgesee_sentinel_0)) => g_lodgesee_sentinel_0 N n x.1 x.2.1 x.2.2.1) x = some y → LoopCon Go.Proofs.Tryd.prog E S b_lodgesee_sentinel_0 (encSlots h_lodgesee_sentinel_0 x) (encEx e_lodgesee_sentinel_0 y).1 (encEx e_lodgesee_sentinel_0 y).2 :=
  loop_spec E_ok mixed (cs_lodgesee_sentinel_ok S N) (all := loopsOf b_lodgesee_sentinel) (ls := []) (.nil) (i := 0) (by kernel_rfl) (inner_of (by kernel_rfl)) (head := h_lodgesee_sentinel_0) (ex := e_lodgesee_sentinel_0) (fun n (x : Val (slotsTy h_lodgesee_sentinel_0)) => g_lodgesee_sentinel_0 N n x.1 x.2.1 x.2.2.1) (fun _ => rfl) (fun n x => by kernel_rfl)
theorem F_lodgesee_sentinel_ok (S : Nat → Addr) (N : Nat) : ∀ x y, (c_lodgesee_sentinel N).g x = some y → FCon Go.Proofs.Tryd.prog E S 87 ps_lodgesee_sentinel rs_lodgesee_sentinel x y := by
  intro x y h
  exact fun_spec E_ok mixed (cs_lodgesee_sentinel_ok S N) (f := 87) (fi := ⟨b_lodgesee_sentinel, 20, Go.Proofs.Tryd.f87.results.toList⟩) (by kernel_rfl) (ls := [l_lodgesee_sentinel_0 N]) (.cons (by kernel_rfl) (g_lodgesee_sentinel_0_ok S N N) (.nil)) (by kernel_rfl) (ps := ps_lodgesee_sentinel) (rs := rs_lodgesee_sentinel) (Eq.trans (b := F_lodgesee_sentinel N x.1) (by kernel_rfl) h)

/-! lodge/lodgeref.Placed -/

abbrev ps_lodgeref_Placed : List Ty := [(.int .i64), (.int .i64)]
abbrev rs_lodgeref_Placed : List Slot := [.data (.st (.pair (.int .i64) (.pair .bool (.int .i64))))]
abbrev cs_lodgeref_Placed (N : Nat) : List CallSpec := [c_lodgeref_None N]
noncomputable abbrev b_lodgeref_Placed : Code := (Go.Proofs.Tryd.f88.body).getD .skip

def F_lodgeref_Placed (N : Nat) (code_0 : Int) (pos_1 : Int) : Option ((Int × (Bool × Int)) × Unit) :=
  cond (decide (code_0 = (0 : Int)))
    (
    Option.bind (F_lodgeref_None N) fun y0 =>
    some y0)
    (
    some ((code_0, (true, pos_1)), ()))

abbrev c_lodgeref_Placed (N : Nat) : CallSpec := ⟨88, ps_lodgeref_Placed, rs_lodgeref_Placed, fun x => F_lodgeref_Placed N x.1 x.2.1⟩

theorem cs_lodgeref_Placed_ok (S : Nat → Addr) (N : Nat) : CallsOK Go.Proofs.Tryd.prog E S (cs_lodgeref_Placed N) :=
  .cons (F_lodgeref_None_ok S N) (.nil)
theorem F_lodgeref_Placed_ok (S : Nat → Addr) (N : Nat) : ∀ x y, (c_lodgeref_Placed N).g x = some y → FCon Go.Proofs.Tryd.prog E S 88 ps_lodgeref_Placed rs_lodgeref_Placed x y := by
  intro x y h
  exact fun_spec E_ok mixed (cs_lodgeref_Placed_ok S N) (f := 88) (fi := ⟨b_lodgeref_Placed, 11, Go.Proofs.Tryd.f88.results.toList⟩) (by kernel_rfl) (ls := []) (.nil) (by kernel_rfl) (ps := ps_lodgeref_Placed) (rs := rs_lodgeref_Placed) (Eq.trans (b := F_lodgeref_Placed N x.1 x.2.1) (by kernel_rfl) h)

/-! lodge/lodgesee.Fault -/

abbrev ps_lodgesee_Fault : List Ty := [.err]
abbrev rs_lodgesee_Fault : List Slot := [.data (.st (.pair (.int .i64) (.pair .bool (.int .i64))))]
abbrev cs_lodgesee_Fault (N : Nat) : List CallSpec := [c_lodgeref_Bare N, c_lodgeref_None N, c_lodgesee_sentinel N, c_lodgeref_Placed N]
noncomputable abbrev b_lodgesee_Fault : Code := (Go.Proofs.Tryd.f76.body).getD .skip

def F_lodgesee_Fault (N : Nat) (e_0 : Er) : Option ((Int × (Bool × Int)) × Unit) :=
  cond (Go.Eng.Er.isNil e_0)
    (
    Option.bind (F_lodgeref_None N) fun y0 =>
    some y0)
    (
    cond (Go.Eng.Er.isAt e_0)
      (
      Option.bind (F_lodgesee_sentinel N (Go.Eng.Er.s (Go.Eng.Er.gix e_0))) fun y1 =>
      Option.bind (F_lodgeref_Placed N (y1).1 (Go.Eng.Er.pos e_0)) fun y2 =>
      some y2)
      (
      Option.bind (F_lodgesee_sentinel N e_0) fun y3 =>
      Option.bind (F_lodgeref_Bare N (y3).1) fun y4 =>
      some y4))

abbrev c_lodgesee_Fault (N : Nat) : CallSpec := ⟨76, ps_lodgesee_Fault, rs_lodgesee_Fault, fun x => F_lodgesee_Fault N x.1⟩

theorem cs_lodgesee_Fault_ok (S : Nat → Addr) (N : Nat) : CallsOK Go.Proofs.Tryd.prog E S (cs_lodgesee_Fault N) :=
  .cons (F_lodgeref_Bare_ok S N) (.cons (F_lodgeref_None_ok S N) (.cons (F_lodgesee_sentinel_ok S N) (.cons (F_lodgeref_Placed_ok S N) (.nil))))
theorem F_lodgesee_Fault_ok (S : Nat → Addr) (N : Nat) : ∀ x y, (c_lodgesee_Fault N).g x = some y → FCon Go.Proofs.Tryd.prog E S 76 ps_lodgesee_Fault rs_lodgesee_Fault x y := by
  intro x y h
  exact fun_spec E_ok mixed (cs_lodgesee_Fault_ok S N) (f := 76) (fi := ⟨b_lodgesee_Fault, 38, Go.Proofs.Tryd.f76.results.toList⟩) (by kernel_rfl) (ls := []) (.nil) (by kernel_rfl) (ps := ps_lodgesee_Fault) (rs := rs_lodgesee_Fault) (Eq.trans (b := F_lodgesee_Fault N x.1) (by kernel_rfl) h)

/-! lodge/lodgeref.SameFault -/

abbrev ps_lodgeref_SameFault : List Ty := [(.st (.pair (.int .i64) (.pair .bool (.int .i64)))), (.st (.pair (.int .i64) (.pair .bool (.int .i64))))]
abbrev rs_lodgeref_SameFault : List Slot := [.data .bool]
abbrev cs_lodgeref_SameFault (N : Nat) : List CallSpec := []
noncomputable abbrev b_lodgeref_SameFault : Code := (Go.Proofs.Tryd.f75.body).getD .skip

def F_lodgeref_SameFault (N : Nat) (a_0 : (Int × (Bool × Int))) (b_1 : (Int × (Bool × Int))) : Option (Bool × Unit) :=
  cond (decide ((a_0).1 = (b_1).1))
    (
    cond (((a_0).2).1 == ((b_1).2).1)
      (
      some ((decide (((a_0).2).2 = ((b_1).2).2)), ()))
      (
      some (false, ())))
    (
    some (false, ()))

abbrev c_lodgeref_SameFault (N : Nat) : CallSpec := ⟨75, ps_lodgeref_SameFault, rs_lodgeref_SameFault, fun x => F_lodgeref_SameFault N x.1 x.2.1⟩

theorem cs_lodgeref_SameFault_ok (S : Nat → Addr) (N : Nat) : CallsOK Go.Proofs.Tryd.prog E S (cs_lodgeref_SameFault N) :=
  .nil
theorem F_lodgeref_SameFault_ok (S : Nat → Addr) (N : Nat) : ∀ x y, (c_lodgeref_SameFault N).g x = some y → FCon Go.Proofs.Tryd.prog E S 75 ps_lodgeref_SameFault rs_lodgeref_SameFault x y := by
  intro x y h
  exact fun_spec E_ok mixed (cs_lodgeref_SameFault_ok S N) (f := 75) (fi := ⟨b_lodgeref_SameFault, 24, Go.Proofs.Tryd.f75.results.toList⟩) (by kernel_rfl) (ls := []) (.nil) (by kernel_rfl) (ps := ps_lodgeref_SameFault) (rs := rs_lodgeref_SameFault) (Eq.trans (b := F_lodgeref_SameFault N x.1 x.2.1) (by kernel_rfl) h)

/-! lodge/lodgesee.Same -/

abbrev ps_lodgesee_Same : List Ty := [.err, (.st (.pair (.int .i64) (.pair .bool (.int .i64))))]
abbrev rs_lodgesee_Same : List Slot := [.data .bool]
abbrev cs_lodgesee_Same (N : Nat) : List CallSpec := [c_lodgesee_Fault N, c_lodgeref_SameFault N]
noncomputable abbrev b_lodgesee_Same : Code := (Go.Proofs.Tryd.f50.body).getD .skip

def F_lodgesee_Same (N : Nat) (e_0 : Er) (f_1 : (Int × (Bool × Int))) : Option (Bool × Unit) :=
  Option.bind (F_lodgesee_Fault N e_0) fun y0 =>
  Option.bind (F_lodgeref_SameFault N (y0).1 f_1) fun y1 =>
  some y1

abbrev c_lodgesee_Same (N : Nat) : CallSpec := ⟨50, ps_lodgesee_Same, rs_lodgesee_Same, fun x => F_lodgesee_Same N x.1 x.2.1⟩

theorem cs_lodgesee_Same_ok (S : Nat → Addr) (N : Nat) : CallsOK Go.Proofs.Tryd.prog E S (cs_lodgesee_Same N) :=
  .cons (F_lodgesee_Fault_ok S N) (.cons (F_lodgeref_SameFault_ok S N) (.nil))
theorem F_lodgesee_Same_ok (S : Nat → Addr) (N : Nat) : ∀ x y, (c_lodgesee_Same N).g x = some y → FCon Go.Proofs.Tryd.prog E S 50 ps_lodgesee_Same rs_lodgesee_Same x y := by
  intro x y h
  exact fun_spec E_ok mixed (cs_lodgesee_Same_ok S N) (f := 50) (fi := ⟨b_lodgesee_Same, 9, Go.Proofs.Tryd.f50.results.toList⟩) (by kernel_rfl) (ls := []) (.nil) (by kernel_rfl) (ps := ps_lodgesee_Same) (rs := rs_lodgesee_Same) (Eq.trans (b := F_lodgesee_Same N x.1 x.2.1) (by kernel_rfl) h)

/-! lodge/lodgesee.Is -/

abbrev ps_lodgesee_Is : List Ty := [.err, (.int .i64)]
abbrev rs_lodgesee_Is : List Slot := [.data .bool]
abbrev cs_lodgesee_Is (N : Nat) : List CallSpec := [c_lodgeref_Bare N, c_lodgesee_Same N]
noncomputable abbrev b_lodgesee_Is : Code := (Go.Proofs.Tryd.f15.body).getD .skip

def F_lodgesee_Is (N : Nat) (e_0 : Er) (code_1 : Int) : Option (Bool × Unit) :=
  Option.bind (F_lodgeref_Bare N code_1) fun y0 =>
  Option.bind (F_lodgesee_Same N e_0 (y0).1) fun y1 =>
  some y1

abbrev c_lodgesee_Is (N : Nat) : CallSpec := ⟨15, ps_lodgesee_Is, rs_lodgesee_Is, fun x => F_lodgesee_Is N x.1 x.2.1⟩

theorem cs_lodgesee_Is_ok (S : Nat → Addr) (N : Nat) : CallsOK Go.Proofs.Tryd.prog E S (cs_lodgesee_Is N) :=
  .cons (F_lodgeref_Bare_ok S N) (.cons (F_lodgesee_Same_ok S N) (.nil))
theorem F_lodgesee_Is_ok (S : Nat → Addr) (N : Nat) : ∀ x y, (c_lodgesee_Is N).g x = some y → FCon Go.Proofs.Tryd.prog E S 15 ps_lodgesee_Is rs_lodgesee_Is x y := by
  intro x y h
  exact fun_spec E_ok mixed (cs_lodgesee_Is_ok S N) (f := 15) (fi := ⟨b_lodgesee_Is, 9, Go.Proofs.Tryd.f15.results.toList⟩) (by kernel_rfl) (ls := []) (.nil) (by kernel_rfl) (ps := ps_lodgesee_Is) (rs := rs_lodgesee_Is) (Eq.trans (b := F_lodgesee_Is N x.1 x.2.1) (by kernel_rfl) h)

/-! lodge/lodgelaw12.OpResults -/

abbrev ps_lodgelaw12_OpResults : List Ty := [(.int .i64), (.sl (.int .i64)), (.sl (.st (.pair (.sl (.int .i64)) .bool)))]
abbrev rs_lodgelaw12_OpResults : List Slot := [.data .bool]
abbrev cs_lodgelaw12_OpResults (N : Nat) : List CallSpec := [c_op_Result N, c_op_Unit N, c_lodgelaw12_first N, c_lodgeworld_Desc N, c_lodgeref_SameDesc N, c_lodgeref3_Result N, c_lodgeref3_Unit N, c_lodgesee_Is N]
noncomputable abbrev b_lodgelaw12_OpResults : Code := (Go.Proofs.Tryd.f3.body).getD .skip

abbrev h_lodgelaw12_OpResults_0 : List Slot := [.data (.int .i64), .data (.sl (.int .i64)), .data (.sl (.st (.pair (.sl (.int .i64)) .bool))), .dead, .dead, .dead, .dead, .dead, .data (.int .i64), .dead, .dead, .dead, .dead, .dead, .dead, .dead, .dead, .dead, .dead, .dead, .dead, .dead, .dead, .dead, .dead, .dead, .dead, .dead, .dead, .dead, .dead, .dead, .dead, .dead, .dead, .dead, .dead, .dead, .dead, .dead, .dead, .dead, .dead, .dead, .dead, .dead, .dead, .dead, .dead, .dead, .dead, .dead, .dead, .dead, .dead, .dead, .dead, .dead, .dead, .dead, .dead, .dead, .dead, .dead, .dead, .dead, .dead, .dead, .dead, .dead, .dead, .dead, .dead, .dead, .dead, .dead, .dead, .dead, .dead, .dead, .dead, .dead, .dead, .dead, .dead, .dead, .dead, .dead, .dead, .dead, .dead]
abbrev e_lodgelaw12_OpResults_0 : List (AX × List Slot) := [(AX.exit 0, [.data (.int .i64), .data (.sl (.int .i64)), .data (.sl (.st (.pair (.sl (.int .i64)) .bool))), .dead, .dead, .dead, .dead, .dead, .dead, .dead, .dead, .dead, .dead, .dead, .dead, .dead, .dead, .dead, .dead, .dead, .dead, .dead, .dead, .dead, .dead, .dead, .dead, .dead, .dead, .dead, .dead, .dead, .dead, .dead, .dead, .dead, .dead, .dead, .dead, .dead, .dead, .dead, .dead, .dead, .dead, .dead, .dead, .dead, .dead, .dead, .dead, .dead, .dead, .dead, .dead, .dead, .dead, .dead, .dead, .dead, .dead, .dead, .dead, .dead, .dead, .dead, .dead, .dead, .dead, .dead, .dead, .dead, .dead, .dead, .dead, .dead, .dead, .dead, .dead, .dead, .dead, .dead, .dead, .dead, .dead, .dead, .dead, .dead, .dead, .dead, .dead]), (AX.ret, [.dead, .dead, .dead, .dead, .dead, .dead, .data .bool, .dead, .dead, .dead, .dead, .dead, .dead, .dead, .dead, .dead, .dead, .dead, .dead, .dead, .dead, .dead, .dead, .dead, .dead, .dead, .dead, .dead, .dead, .dead, .dead, .dead, .dead, .dead, .dead, .dead, .dead, .dead, .dead, .dead, .dead, .dead, .dead, .dead, .dead, .dead, .dead, .dead, .dead, .dead, .dead, .dead, .dead, .dead, .dead, .dead, .dead, .dead, .dead, .dead, .dead, .dead, .dead, .dead, .dead, .dead, .dead, .dead, .dead, .dead, .dead, .dead, .dead, .dead, .dead, .dead, .dead, .dead, .dead, .dead, .dead, .dead, .dead, .dead, .dead, .dead, .dead, .dead, .dead, .dead, .dead])]
def g_lodgelaw12_OpResults_0 (N : Nat) : Nat → Int → List Int → List ((List Int × Bool)) → Int → Option (Sum (Int × (List Int × (List ((List Int × Bool)) × Unit))) (Bool × Unit))
  | 0, _, _, _, _ => none
  | n + 1, o_0, args_1, ins_2, i_8 =>
    cond (decide (i_8 < (Nat.cast (List.length ins_2) : Int)))
      (
      cond (decide ((0 : Int) ≤ i_8))
        (
        cond (decide ((Int.toNat i_8) < (List.length ins_2)))
          (
          Option.bind (F_lodgeworld_Desc N (List.getD ins_2 (Int.toNat i_8) (([] : List Int), false))) fun y2 =>
          cond (Bool.not (y2).1)
            (
            some (Sum.inr (true, ())))
            (
            (g_lodgelaw12_OpResults_0 N n o_0 args_1 ins_2 (wi64 (i_8 + (1 : Int))))))
          (
          none))
        (
        none))
      (
      some (Sum.inl (o_0, (args_1, (ins_2, ())))))

def F_lodgelaw12_OpResults (N : Nat) (o_0 : Int) (args_1 : List Int) (ins_2 : List ((List Int × Bool))) : Option (Bool × Unit) :=
  Option.bind (F_lodgelaw12_first N) fun y0 =>
  cond (Bool.not (y0).1)
    (
    some (false, ()))
    (
    cond (decide ((10 : Int) < (Nat.cast (List.length args_1) : Int)))
      (
      some y0)
      (
      cond (decide ((3 : Int) < (Nat.cast (List.length ins_2) : Int)))
        (
        some y0)
        (
        cond (Bool.not (y0).1)
          (
          some y0)
          (
          Option.bind (g_lodgelaw12_OpResults_0 N N o_0 args_1 ins_2 (0 : Int)) fun y1 =>
          Sum.elim (fun y2 =>
            Option.bind (F_op_Result N (y2).1 ((y2).2).1 (((y2).2).2).1) fun y3 =>
            Option.bind (F_lodgeref3_Result N (y2).1 ((y2).2).1 (((y2).2).2).1) fun y4 =>
            Option.bind (F_op_Unit N (y2).1 ((y2).2).1 (((y2).2).2).1) fun y5 =>
            Option.bind (F_lodgeref3_Unit N (y2).1 ((y2).2).1 (((y2).2).2).1) fun y6 =>
            Option.bind (F_lodgesee_Is N ((y3).2).1 ((y4).2).1) fun y7 =>
            cond (y7).1
              (
              cond (decide (((0 : Nat) + (List.length ((y4).1).1)) ≤ (List.length ((y4).1).1)))
                (
                Option.bind (F_lodgeref_SameDesc N (y3).1 ((List.take (List.length ((y4).1).1) ((y4).1).1), (((y4).1).2).1)) fun y8 =>
                cond (y8).1
                  (
                  cond (decide ((y5).1 = (y6).1))
                    (
                    Option.bind (F_lodgesee_Is N ((y5).2).1 ((y6).2).1) fun y9 =>
                    some y9)
                    (
                    some (false, ())))
                  (
                  some (false, ())))
                (
                none))
              (
              some (false, ())))
            (fun y10 =>
            some y10) y1))))

abbrev c_lodgelaw12_OpResults (N : Nat) : CallSpec := ⟨3, ps_lodgelaw12_OpResults, rs_lodgelaw12_OpResults, fun x => F_lodgelaw12_OpResults N x.1 x.2.1 x.2.2.1⟩
abbrev l_lodgelaw12_OpResults_0 (N : Nat) : LoopSpec := ⟨0, h_lodgelaw12_OpResults_0, e_lodgelaw12_OpResults_0, fun x => g_lodgelaw12_OpResults_0 N N x.1 x.2.1 x.2.2.1 x.2.2.2.1⟩

theorem cs_lodgelaw12_OpResults_ok (S : Nat → Addr) (N : Nat) : CallsOK Go.Proofs.Tryd.prog E S (cs_lodgelaw12_OpResults N) :=
  .cons (F_op_Result_ok S N) (.cons (F_op_Unit_ok S N) (.cons (F_lodgelaw12_first_ok S N) (.cons (F_lodgeworld_Desc_ok S N) (.cons (F_lodgeref_SameDesc_ok S N) (.cons (F_lodgeref3_Result_ok S N) (.cons (F_lodgeref3_Unit_ok S N) (.cons (F_lodgesee_Is_ok S N) (.nil))))))))
noncomputable abbrev b_lodgelaw12_OpResults_0 : Code := (loopsOf b_lodgelaw12_OpResults).getD 0 .skip
theorem g_lodgelaw12_OpResults_0_ok (S : Nat → Addr) (N : Nat) : ∀ n x y, (fun (x : Val (slotsTy h_lodgelaw12_OpResults_0)) => g_lodgelaw12_OpResults_0 N n x.1 x.2.1 x.2.2.1 x.2.2.2.1) x = some y → LoopCon Go.Proofs.Tryd.prog E S b_lodgelaw12_OpResults_0 (encSlots h_lodgelaw12_OpResults_0 x) (encEx e_lodgelaw12_OpResults_0 y).1 (encEx e_lodgelaw12_OpResults_0 y).2 :=
  loop_spec E_ok mixed (cs_lodgelaw12_OpResults_ok S N) (all := loopsOf b_lodgelaw12_OpResults) (ls := []) (.nil) (i := 0) (by kernel_rfl) (inner_of (by kernel_rfl)) (head := h_lodgelaw12_OpResults_0) (ex := e_lodgelaw12_OpResults_0) (fun n (x : Val (slotsTy h_lodgelaw12_OpResults_0)) => g_lodgelaw12_OpResults_0 N n x.1 x.2.1 x.2.2.1 x.2.2.2.1) (fun _ => rfl) (fun n x => by kernel_rfl)
theorem F_lodgelaw12_OpResults_ok (S : Nat → Addr) (N : Nat) : ∀ x y, (c_lodgelaw12_OpResults N).g x = some y → FCon Go.Proofs.Tryd.prog E S 3 ps_lodgelaw12_OpResults rs_lodgelaw12_OpResults x y := by
  intro x y h
  exact fun_spec E_ok mixed (cs_lodgelaw12_OpResults_ok S N) (f := 3) (fi := ⟨b_lodgelaw12_OpResults, 91, Go.Proofs.Tryd.f3.results.toList⟩) (by kernel_rfl) (ls := [l_lodgelaw12_OpResults_0 N]) (.cons (by kernel_rfl) (g_lodgelaw12_OpResults_0_ok S N N) (.nil)) (by kernel_rfl) (ps := ps_lodgelaw12_OpResults) (rs := rs_lodgelaw12_OpResults) (Eq.trans (b := F_lodgelaw12_OpResults N x.1 x.2.1 x.2.2.1) (by kernel_rfl) h)

end Go.Proofs.YtnblnlanicpagaaDoor.Lg
