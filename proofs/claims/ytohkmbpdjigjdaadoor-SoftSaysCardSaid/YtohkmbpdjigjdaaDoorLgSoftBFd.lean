/-
  The functions of the seat's program, as plain functions.
-/
import Derived.Test.YtohkmbpdjigjdaaDoorLgSoftBFc
namespace Go.Proofs.YtohkmbpdjigjdaaDoor.Lg
open Go Go.Eng Go.Proofs
set_option maxRecDepth 100000

/-! lodge/lodgeref3.Result -/

abbrev ps_lodgeref3_Result : List Ty := [(.int .i64), (.sl (.int .i64)), (.sl (.st (.pair (.sl (.int .i64)) .bool)))]
abbrev rs_lodgeref3_Result : List Slot := [.ag [.sl (.int .i64), .d .bool], .data (.int .i64)]
abbrev cs_lodgeref3_Result (N : Nat) : List CallSpec := [c_lodgeref3_ValidDesc N, c_lodgeref3_Elems N, c_lodgeref3_Known N, c_lodgeref_Ints N, c_lodgeref3_ElemResult N, c_lodgeref3_Ins N, c_lodgeref3_Args N, c_lodgeref3_seen N, c_lodgeref3_MatResult N, c_lodgeref3_ConvResult N, c_lodgeref3_PoolResult N, c_lodgeref3_SoftResult N]
noncomputable abbrev b_lodgeref3_Result : Code := (Go.Proofs.Tryd.f45.body).getD .skip

abbrev j_lodgeref3_Result : Joins := [(19, [(AX.normal, [.data (.int .i64), .data (.sl (.int .i64)), .data (.sl (.st (.pair (.sl (.int .i64)) .bool))), .dead, .dead, .dead, .box [.sl (.int .i64), .d .bool], .dead, .dead, .dead, .dead, .dead, .dead, .dead, .dead, .dead, .dead, .dead, .dead, .dead, .dead, .dead, .dead, .dead, .dead, .dead, .dead, .dead, .dead, .dead, .dead, .dead, .dead, .dead, .dead, .dead, .dead, .dead, .dead, .dead, .dead, .dead, .dead, .dead, .dead, .dead, .dead, .dead, .dead, .dead, .dead, .dead, .dead, .dead, .dead, .dead, .dead, .dead, .dead, .dead, .dead, .dead, .dead, .dead, .dead, .dead, .dead, .dead, .dead, .dead, .dead, .dead, .dead, .dead, .dead, .dead, .dead, .dead, .dead, .dead, .data .bool, .dead, .dead, .dead, .dead, .dead, .dead, .dead, .dead, .dead, .dead, .dead, .dead, .dead, .dead, .dead, .dead, .dead, .dead, .dead, .dead, .dead, .dead, .dead, .dead, .dead, .dead, .dead, .dead, .dead, .dead, .dead, .dead, .dead, .dead, .dead, .dead, .dead, .dead, .dead, .dead, .dead, .dead, .dead, .dead, .dead, .dead, .dead, .dead, .dead, .dead, .dead, .dead, .dead, .dead, .dead, .dead, .dead, .dead, .dead, .dead])]),
  (16, [(AX.normal, [.data (.int .i64), .data (.sl (.int .i64)), .data (.sl (.st (.pair (.sl (.int .i64)) .bool))), .dead, .dead, .dead, .box [.sl (.int .i64), .d .bool], .dead, .dead, .dead, .dead, .dead, .dead, .dead, .dead, .dead, .dead, .dead, .dead, .dead, .dead, .dead, .dead, .dead, .dead, .dead, .dead, .dead, .dead, .dead, .dead, .dead, .dead, .dead, .dead, .dead, .dead, .dead, .dead, .dead, .data (.int .i64), .dead, .dead, .dead, .dead, .dead, .dead, .dead, .dead, .dead, .dead, .dead, .dead, .dead, .dead, .dead, .dead, .dead, .dead, .dead, .dead, .dead, .dead, .dead, .dead, .dead, .dead, .dead, .dead, .dead, .data .bool, .dead, .dead, .dead, .dead, .dead, .dead, .dead, .dead, .dead, .dead, .dead, .dead, .dead, .dead, .dead, .dead, .dead, .dead, .dead, .dead, .dead, .dead, .dead, .dead, .dead, .dead, .dead, .dead, .dead, .dead, .dead, .dead, .dead, .dead, .dead, .dead, .dead, .dead, .dead, .dead, .dead, .dead, .dead, .dead, .dead, .dead, .dead, .dead, .dead, .dead, .dead, .dead, .dead, .dead, .dead, .dead, .dead, .dead, .dead, .dead, .dead, .dead, .dead, .dead, .dead, .dead, .dead, .dead, .dead, .dead])]),
  (8, [(AX.normal, [.data (.int .i64), .data (.sl (.int .i64)), .data (.sl (.st (.pair (.sl (.int .i64)) .bool))), .dead, .dead, .dead, .box [.sl (.int .i64), .d .bool], .dead, .dead, .dead, .dead, .dead, .dead, .dead, .dead, .dead, .dead, .dead, .dead, .dead, .dead, .dead, .dead, .dead, .dead, .dead, .dead, .dead, .dead, .dead, .dead, .dead, .dead, .dead, .dead, .dead, .dead, .dead, .data .bool, .dead, .dead, .dead, .dead, .dead, .dead, .dead, .dead, .dead, .dead, .dead, .dead, .dead, .dead, .dead, .dead, .dead, .dead, .dead, .dead, .dead, .dead, .dead, .dead, .dead, .dead, .dead, .dead, .dead, .dead, .dead, .dead, .dead, .dead, .dead, .dead, .dead, .dead, .dead, .dead, .dead, .dead, .dead, .dead, .dead, .dead, .dead, .dead, .dead, .dead, .dead, .dead, .dead, .dead, .dead, .dead, .dead, .dead, .dead, .dead, .dead, .dead, .dead, .dead, .dead, .dead, .dead, .dead, .dead, .dead, .dead, .dead, .dead, .dead, .dead, .dead, .dead, .dead, .dead, .dead, .dead, .dead, .dead, .dead, .dead, .dead, .dead, .dead, .dead, .dead, .dead, .dead, .dead, .dead, .dead, .dead, .dead, .dead, .dead, .dead, .dead, .dead])])]
def F_lodgeref3_Result (N : Nat) (op_0 : Int) (args_1 : List Int) (ins_2 : List ((List Int × Bool))) : Option ((List Int × (Bool × Unit)) × (Int × Unit)) :=
  Option.bind (F_lodgeref3_Known N op_0) fun y0 =>
  cond (Bool.not (y0).1)
    (
    some ((([] : List Int), (false, ())), ((103 : Int), ())))
    (
    cond (decide (op_0 ≤ (11 : Int)))
      (
      Option.bind (F_lodgeref3_ElemResult N op_0 args_1 ins_2) fun y1 =>
      cond (decide ((List.length ((y1).1).1) = (List.length ((y1).1).1)))
        (
        some y1)
        (
        none))
      (
      Option.bind (
          Option.bind (F_lodgeref3_Ins N op_0) fun y2 =>
          cond (decide (@Ne Int (Nat.cast (List.length ins_2) : Int) (y2).1))
            (
            some (op_0, (args_1, (ins_2, ((([] : List Int), (false, ())), (true, ()))))))
            (
            cond (decide (@Ne Int op_0 (18 : Int)))
              (
              Option.bind (F_lodgeref3_Args N op_0) fun y3 =>
              some (op_0, (args_1, (ins_2, ((([] : List Int), (false, ())), ((decide (@Ne Int (Nat.cast (List.length args_1) : Int) (y3).1)), ()))))))
              (
              some (op_0, (args_1, (ins_2, ((([] : List Int), (false, ())), (false, ())))))))) fun y4 =>
      cond (((((y4).2).2).2).2).1
        (
        some ((([] : List Int), (false, ())), ((101 : Int), ())))
        (
        cond (decide ((y4).1 = (12 : Int)))
          (
          cond (decide (0 < (List.length ((y4).2).1)))
            (
            cond (decide (1 < (List.length ((y4).2).1)))
              (
              cond (decide (0 < (List.length (((y4).2).2).1)))
                (
                cond (decide (1 < (List.length (((y4).2).2).1)))
                  (
                  Option.bind (F_lodgeref3_MatResult N (List.getD ((y4).2).1 0 (0 : Int)) (List.getD ((y4).2).1 1 (0 : Int)) (List.getD (((y4).2).2).1 0 (([] : List Int), false)) (List.getD (((y4).2).2).1 1 (([] : List Int), false))) fun y5 =>
                  cond (decide ((List.length ((y5).1).1) = (List.length ((y5).1).1)))
                    (
                    some y5)
                    (
                    none))
                  (
                  none))
                (
                none))
              (
              none))
            (
            none))
          (
          cond (decide ((y4).1 = (13 : Int)))
            (
            cond (decide (0 < (List.length (((y4).2).2).1)))
              (
              cond (decide (1 < (List.length (((y4).2).2).1)))
                (
                Option.bind (F_lodgeref3_ConvResult N ((y4).2).1 (List.getD (((y4).2).2).1 0 (([] : List Int), false)) (List.getD (((y4).2).2).1 1 (([] : List Int), false))) fun y6 =>
                cond (decide ((List.length ((y6).1).1) = (List.length ((y6).1).1)))
                  (
                  some y6)
                  (
                  none))
                (
                none))
              (
              none))
            (
            Option.bind (
                cond (decide ((y4).1 = (14 : Int)))
                  (
                  cond (decide ((List.length (((((y4).2).2).2).1).1) = (List.length (((((y4).2).2).2).1).1)))
                    (
                    some ((y4).1, (((y4).2).1, ((((y4).2).2).1, (((((y4).2).2).2).1, ((y4).1, (true, ())))))))
                    (
                    none))
                  (
                  cond (decide ((List.length (((((y4).2).2).2).1).1) = (List.length (((((y4).2).2).2).1).1)))
                    (
                    some ((y4).1, (((y4).2).1, ((((y4).2).2).1, (((((y4).2).2).2).1, ((y4).1, ((decide ((y4).1 = (15 : Int))), ())))))))
                    (
                    none))) fun y7 =>
            cond ((((((y7).2).2).2).2).2).1
              (
              cond (decide (0 < (List.length (((y7).2).2).1)))
                (
                Option.bind (F_lodgeref3_PoolResult N ((y7).2).1 (List.getD (((y7).2).2).1 0 (([] : List Int), false))) fun y8 =>
                cond (decide ((List.length ((y8).1).1) = (List.length ((y8).1).1)))
                  (
                  some y8)
                  (
                  none))
                (
                none))
              (
              Option.bind (
                  cond (decide ((((((y7).2).2).2).2).1 = (16 : Int)))
                    (
                    cond (decide ((List.length (((((y7).2).2).2).1).1) = (List.length (((((y7).2).2).2).1).1)))
                      (
                      some ((y7).1, (((y7).2).1, ((((y7).2).2).1, (((((y7).2).2).2).1, (true, ()))))))
                      (
                      none))
                    (
                    cond (decide ((((((y7).2).2).2).2).1 = (17 : Int)))
                      (
                      cond (decide ((List.length (((((y7).2).2).2).1).1) = (List.length (((((y7).2).2).2).1).1)))
                        (
                        some ((y7).1, (((y7).2).1, ((((y7).2).2).1, (((((y7).2).2).2).1, (true, ()))))))
                        (
                        none))
                      (
                      cond (decide ((((((y7).2).2).2).2).1 = (19 : Int)))
                        (
                        cond (decide ((List.length (((((y7).2).2).2).1).1) = (List.length (((((y7).2).2).2).1).1)))
                          (
                          some ((y7).1, (((y7).2).1, ((((y7).2).2).1, (((((y7).2).2).2).1, (true, ()))))))
                          (
                          none))
                        (
                        cond (decide ((List.length (((((y7).2).2).2).1).1) = (List.length (((((y7).2).2).2).1).1)))
                          (
                          some ((y7).1, (((y7).2).1, ((((y7).2).2).1, (((((y7).2).2).2).1, ((decide ((((((y7).2).2).2).2).1 = (20 : Int))), ()))))))
                          (
                          none))))) fun y9 =>
              cond (((((y9).2).2).2).2).1
                (
                Option.bind (F_lodgeref3_SoftResult N (y9).1 (((y9).2).2).1) fun y10 =>
                cond (decide ((List.length ((y10).1).1) = (List.length ((y10).1).1)))
                  (
                  some y10)
                  (
                  none))
                (
                cond (decide (0 < (List.length (((y9).2).2).1)))
                  (
                  Option.bind (F_lodgeref3_ValidDesc N (List.getD (((y9).2).2).1 0 (([] : List Int), false))) fun y11 =>
                  cond (decide (@Ne Int (y11).1 (0 : Int)))
                    (
                    some ((([] : List Int), (false, ())), y11))
                    (
                    cond (decide ((y9).1 = (21 : Int)))
                      (
                      cond (decide (@Ne Int (Nat.cast (List.length ((List.getD (((y9).2).2).1 0 (([] : List Int), false))).1) : Int) (2 : Int)))
                        (
                        some ((([] : List Int), (false, ())), ((101 : Int), ())))
                        (
                        cond (decide (1 < (List.length ((List.getD (((y9).2).2).1 0 (([] : List Int), false))).1)))
                          (
                          cond (decide (0 < (List.length ((List.getD (((y9).2).2).1 0 (([] : List Int), false))).1)))
                            (
                            Option.bind (F_lodgeref3_seen N (((List.getD ((List.getD (((y9).2).2).1 0 (([] : List Int), false))).1 1 (0 : Int)) :: ((List.getD ((List.getD (((y9).2).2).1 0 (([] : List Int), false))).1 0 (0 : Int)) :: ([] : List Int))), ((List.getD (((y9).2).2).1 0 (([] : List Int), false))).2)) fun y12 =>
                            cond (decide ((List.length ((y12).1).1) = (List.length ((y12).1).1)))
                              (
                              some y12)
                              (
                              none))
                            (
                            none))
                          (
                          none)))
                      (
                      Option.bind (F_lodgeref_Ints N ((y9).2).1) fun y13 =>
                      cond (decide (((0 : Nat) + (List.length (y13).1)) ≤ (List.length (y13).1)))
                        (
                        Option.bind (F_lodgeref3_ValidDesc N ((List.take (List.length (y13).1) (y13).1), ((List.getD (((y9).2).2).1 0 (([] : List Int), false))).2)) fun y14 =>
                        cond (decide (@Ne Int (y14).1 (0 : Int)))
                          (
                          some ((([] : List Int), (false, ())), y14))
                          (
                          cond (decide (((0 : Nat) + (List.length (y13).1)) ≤ (List.length (y13).1)))
                            (
                            Option.bind (F_lodgeref3_Elems N (List.take (List.length (y13).1) (y13).1)) fun y15 =>
                            Option.bind (F_lodgeref3_Elems N ((List.getD (((y9).2).2).1 0 (([] : List Int), false))).1) fun y16 =>
                            cond (decide (@Ne Int (y15).1 (y16).1))
                              (
                              some ((([] : List Int), (false, ())), ((101 : Int), ())))
                              (
                              cond (decide ((List.length (y13).1) = (List.length (y13).1)))
                                (
                                some (((y13).1, (((List.getD (((y9).2).2).1 0 (([] : List Int), false))).2, ())), ((0 : Int), ())))
                                (
                                none)))
                            (
                            none)))
                        (
                        none))))
                  (
                  none))))))))

abbrev c_lodgeref3_Result (N : Nat) : CallSpec := ⟨45, ps_lodgeref3_Result, rs_lodgeref3_Result, fun x => F_lodgeref3_Result N x.1 x.2.1 x.2.2.1⟩

theorem cs_lodgeref3_Result_ok (S : Nat → Addr) (N : Nat) : CallsOK Go.Proofs.Tryd.prog E S (cs_lodgeref3_Result N) :=
  .cons (F_lodgeref3_ValidDesc_ok S N) (.cons (F_lodgeref3_Elems_ok S N) (.cons (F_lodgeref3_Known_ok S N) (.cons (F_lodgeref_Ints_ok S N) (.cons (F_lodgeref3_ElemResult_ok S N) (.cons (F_lodgeref3_Ins_ok S N) (.cons (F_lodgeref3_Args_ok S N) (.cons (F_lodgeref3_seen_ok S N) (.cons (F_lodgeref3_MatResult_ok S N) (.cons (F_lodgeref3_ConvResult_ok S N) (.cons (F_lodgeref3_PoolResult_ok S N) (.cons (F_lodgeref3_SoftResult_ok S N) (.nil))))))))))))
theorem F_lodgeref3_Result_ok (S : Nat → Addr) (N : Nat) : ∀ x y, (c_lodgeref3_Result N).g x = some y → FCon Go.Proofs.Tryd.prog E S 45 ps_lodgeref3_Result rs_lodgeref3_Result x y := by
  intro x y h
  exact fun_specJ E_ok mixed (cs_lodgeref3_Result_ok S N) (f := 45) (fi := ⟨b_lodgeref3_Result, 141, Go.Proofs.Tryd.f45.results.toList⟩) (by kernel_rfl) (ls := []) (.nil) (js := j_lodgeref3_Result) (by kernel_rfl) (ps := ps_lodgeref3_Result) (rs := rs_lodgeref3_Result) (Eq.trans (b := F_lodgeref3_Result N x.1 x.2.1 x.2.2.1) (by kernel_rfl) h)

/-! lodge/lodgeref3.Zero -/

abbrev ps_lodgeref3_Zero : List Ty := [(.st (.pair (.sl (.int .i64)) .bool))]
abbrev rs_lodgeref3_Zero : List Slot := [.ag [.sl (.int .i64), .d .bool, .sl (.int .i64)]]
abbrev cs_lodgeref3_Zero (N : Nat) : List CallSpec := [c_lodgeref3_Elems N, c_lodgeref_Desc N]
noncomputable abbrev b_lodgeref3_Zero : Code := (Go.Proofs.Tryd.f33.body).getD .skip

def F_lodgeref3_Zero (N : Nat) (d_0 : (List Int × Bool)) : Option ((List Int × (Bool × (List Int × Unit))) × Unit) :=
  Option.bind (F_lodgeref_Desc N d_0) fun y0 =>
  Option.bind (F_lodgeref3_Elems N (d_0).1) fun y1 =>
  cond (decide ((0 : Int) ≤ (y1).1))
    (
    cond (decide ((y1).1 ≤ (y1).1))
      (
      cond (decide (((y1).1 * ((Nat.cast 8 : Int) + (1 : Int))) ≤ (Nat.cast Go.Eng.most : Int)))
        (
        cond (decide ((List.length ((y0).1).1) = (List.length ((y0).1).1)))
          (
          cond (decide ((Int.toNat (y1).1) = (List.length (List.replicate (Int.toNat (y1).1) (0 : Int)))))
            (
            some ((((y0).1).1, ((((y0).1).2).1, ((List.replicate (Int.toNat (y1).1) (0 : Int)), ()))), ()))
            (
            none))
          (
          none))
        (
        none))
      (
      none))
    (
    none)

abbrev c_lodgeref3_Zero (N : Nat) : CallSpec := ⟨33, ps_lodgeref3_Zero, rs_lodgeref3_Zero, fun x => F_lodgeref3_Zero N x.1⟩

theorem cs_lodgeref3_Zero_ok (S : Nat → Addr) (N : Nat) : CallsOK Go.Proofs.Tryd.prog E S (cs_lodgeref3_Zero N) :=
  .cons (F_lodgeref3_Elems_ok S N) (.cons (F_lodgeref_Desc_ok S N) (.nil))
theorem F_lodgeref3_Zero_ok (S : Nat → Addr) (N : Nat) : ∀ x y, (c_lodgeref3_Zero N).g x = some y → FCon Go.Proofs.Tryd.prog E S 33 ps_lodgeref3_Zero rs_lodgeref3_Zero x y := by
  intro x y h
  exact fun_spec E_ok mixed (cs_lodgeref3_Zero_ok S N) (f := 33) (fi := ⟨b_lodgeref3_Zero, 10, Go.Proofs.Tryd.f33.results.toList⟩) (by kernel_rfl) (ls := []) (.nil) (by kernel_rfl) (ps := ps_lodgeref3_Zero) (rs := rs_lodgeref3_Zero) (Eq.trans (b := F_lodgeref3_Zero N x.1) (by kernel_rfl) h)

/-! lodge/lodgeref3.Wide -/

abbrev ps_lodgeref3_Wide : List Ty := [(.int .i64)]
abbrev rs_lodgeref3_Wide : List Slot := [.data (.int .i64)]
abbrev cs_lodgeref3_Wide (N : Nat) : List CallSpec := []
noncomputable abbrev b_lodgeref3_Wide : Code := (Go.Proofs.Tryd.f84.body).getD .skip

def F_lodgeref3_Wide (N : Nat) (n_0 : Int) : Option (Int × Unit) :=
  some ((wi64 (wi32 (wu32 (wu64 n_0)))), ())

abbrev c_lodgeref3_Wide (N : Nat) : CallSpec := ⟨84, ps_lodgeref3_Wide, rs_lodgeref3_Wide, fun x => F_lodgeref3_Wide N x.1⟩

theorem cs_lodgeref3_Wide_ok (S : Nat → Addr) (N : Nat) : CallsOK Go.Proofs.Tryd.prog E S (cs_lodgeref3_Wide N) :=
  .nil
theorem F_lodgeref3_Wide_ok (S : Nat → Addr) (N : Nat) : ∀ x y, (c_lodgeref3_Wide N).g x = some y → FCon Go.Proofs.Tryd.prog E S 84 ps_lodgeref3_Wide rs_lodgeref3_Wide x y := by
  intro x y h
  exact fun_spec E_ok mixed (cs_lodgeref3_Wide_ok S N) (f := 84) (fi := ⟨b_lodgeref3_Wide, 8, Go.Proofs.Tryd.f84.results.toList⟩) (by kernel_rfl) (ls := []) (.nil) (by kernel_rfl) (ps := ps_lodgeref3_Wide) (rs := rs_lodgeref3_Wide) (Eq.trans (b := F_lodgeref3_Wide N x.1) (by kernel_rfl) h)

/-! lodge/lodgeref3.Cut -/

abbrev ps_lodgeref3_Cut : List Ty := [(.int .i64), (.int .i64), (.int .i64)]
abbrev rs_lodgeref3_Cut : List Slot := [.data (.int .i64)]
abbrev cs_lodgeref3_Cut (N : Nat) : List CallSpec := []
noncomputable abbrev b_lodgeref3_Cut : Code := (Go.Proofs.Tryd.f66.body).getD .skip

def F_lodgeref3_Cut (N : Nat) (n_0 : Int) (from_1 : Int) (to_2 : Int) : Option (Int × Unit) :=
  cond (decide (n_0 < from_1))
    (
    some (from_1, ()))
    (
    cond (decide (to_2 < n_0))
      (
      some (to_2, ()))
      (
      some (n_0, ())))

abbrev c_lodgeref3_Cut (N : Nat) : CallSpec := ⟨66, ps_lodgeref3_Cut, rs_lodgeref3_Cut, fun x => F_lodgeref3_Cut N x.1 x.2.1 x.2.2.1⟩

theorem cs_lodgeref3_Cut_ok (S : Nat → Addr) (N : Nat) : CallsOK Go.Proofs.Tryd.prog E S (cs_lodgeref3_Cut N) :=
  .nil
theorem F_lodgeref3_Cut_ok (S : Nat → Addr) (N : Nat) : ∀ x y, (c_lodgeref3_Cut N).g x = some y → FCon Go.Proofs.Tryd.prog E S 66 ps_lodgeref3_Cut rs_lodgeref3_Cut x y := by
  intro x y h
  exact fun_spec E_ok mixed (cs_lodgeref3_Cut_ok S N) (f := 66) (fi := ⟨b_lodgeref3_Cut, 16, Go.Proofs.Tryd.f66.results.toList⟩) (by kernel_rfl) (ls := []) (.nil) (by kernel_rfl) (ps := ps_lodgeref3_Cut) (rs := rs_lodgeref3_Cut) (Eq.trans (b := F_lodgeref3_Cut N x.1 x.2.1 x.2.2.1) (by kernel_rfl) h)

/-! lodge/lodgeref3.kept -/

abbrev ps_lodgeref3_kept : List Ty := [(.int .i64), .bool]
abbrev rs_lodgeref3_kept : List Slot := [.data (.int .i64)]
abbrev cs_lodgeref3_kept (N : Nat) : List CallSpec := [c_lodgeref3_Wide N, c_lodgeref3_Cut N]
noncomputable abbrev b_lodgeref3_kept : Code := (Go.Proofs.Tryd.f99.body).getD .skip

def F_lodgeref3_kept (N : Nat) (n_0 : Int) (wide_1 : Bool) : Option (Int × Unit) :=
  cond wide_1
    (
    Option.bind (F_lodgeref3_Wide N n_0) fun y0 =>
    some y0)
    (
    Option.bind (F_lodgeref3_Cut N n_0 (-(128 : Int)) (127 : Int)) fun y1 =>
    some y1)

abbrev c_lodgeref3_kept (N : Nat) : CallSpec := ⟨99, ps_lodgeref3_kept, rs_lodgeref3_kept, fun x => F_lodgeref3_kept N x.1 x.2.1⟩

theorem cs_lodgeref3_kept_ok (S : Nat → Addr) (N : Nat) : CallsOK Go.Proofs.Tryd.prog E S (cs_lodgeref3_kept N) :=
  .cons (F_lodgeref3_Wide_ok S N) (.cons (F_lodgeref3_Cut_ok S N) (.nil))
theorem F_lodgeref3_kept_ok (S : Nat → Addr) (N : Nat) : ∀ x y, (c_lodgeref3_kept N).g x = some y → FCon Go.Proofs.Tryd.prog E S 99 ps_lodgeref3_kept rs_lodgeref3_kept x y := by
  intro x y h
  exact fun_spec E_ok mixed (cs_lodgeref3_kept_ok S N) (f := 99) (fi := ⟨b_lodgeref3_kept, 10, Go.Proofs.Tryd.f99.results.toList⟩) (by kernel_rfl) (ls := []) (.nil) (by kernel_rfl) (ps := ps_lodgeref3_kept) (rs := rs_lodgeref3_kept) (Eq.trans (b := F_lodgeref3_kept N x.1 x.2.1) (by kernel_rfl) h)

/-! lodge/lodgeref3.Requant -/

abbrev ps_lodgeref3_Requant : List Ty := [(.int .i64), (.int .i64), (.int .i64), (.int .i64)]
abbrev rs_lodgeref3_Requant : List Slot := [.data (.int .i64)]
abbrev cs_lodgeref3_Requant (N : Nat) : List CallSpec := [c_lodgeref3_Cut N]
noncomputable abbrev b_lodgeref3_Requant : Code := (Go.Proofs.Tryd.f100.body).getD .skip

def F_lodgeref3_Requant (N : Nat) (x_0 : Int) (mult_1 : Int) (shift_2 : Int) (zero_3 : Int) : Option (Int × Unit) :=
  Option.bind (F_lodgeref3_Cut N x_0 (-(2147483648 : Int)) (2147483647 : Int)) fun y0 =>
  Option.bind (F_lodgeref3_Cut N mult_1 (0 : Int) (2147483647 : Int)) fun y1 =>
  Option.bind (F_lodgeref3_Cut N shift_2 (0 : Int) (62 : Int)) fun y2 =>
  cond (decide ((0 : Int) < (y2).1))
    (
    cond (decide ((0 : Int) ≤ (wu64 (wi64 ((y2).1 - (1 : Int))))))
      (
      cond (decide ((0 : Int) ≤ (wu64 (y2).1)))
        (
        Option.bind (F_lodgeref3_Cut N (Go.Eng.shrI Go.IntKind.i64 (wi64 ((wi64 ((y0).1 * (y1).1)) + (Go.Eng.shlI Go.IntKind.i64 (1 : Int) (wu64 (wi64 ((y2).1 - (1 : Int))))))) (wu64 (y2).1)) (-(1099511627776 : Int)) (1099511627776 : Int)) fun y3 =>
        Option.bind (F_lodgeref3_Cut N zero_3 (-(128 : Int)) (127 : Int)) fun y4 =>
        Option.bind (F_lodgeref3_Cut N (wi64 ((y3).1 + (y4).1)) (-(128 : Int)) (127 : Int)) fun y5 =>
        some y5)
        (
        none))
      (
      none))
    (
    Option.bind (F_lodgeref3_Cut N (wi64 ((y0).1 * (y1).1)) (-(1099511627776 : Int)) (1099511627776 : Int)) fun y6 =>
    Option.bind (F_lodgeref3_Cut N zero_3 (-(128 : Int)) (127 : Int)) fun y7 =>
    Option.bind (F_lodgeref3_Cut N (wi64 ((y6).1 + (y7).1)) (-(128 : Int)) (127 : Int)) fun y8 =>
    some y8)

abbrev c_lodgeref3_Requant (N : Nat) : CallSpec := ⟨100, ps_lodgeref3_Requant, rs_lodgeref3_Requant, fun x => F_lodgeref3_Requant N x.1 x.2.1 x.2.2.1 x.2.2.2.1⟩

theorem cs_lodgeref3_Requant_ok (S : Nat → Addr) (N : Nat) : CallsOK Go.Proofs.Tryd.prog E S (cs_lodgeref3_Requant N) :=
  .cons (F_lodgeref3_Cut_ok S N) (.nil)
theorem F_lodgeref3_Requant_ok (S : Nat → Addr) (N : Nat) : ∀ x y, (c_lodgeref3_Requant N).g x = some y → FCon Go.Proofs.Tryd.prog E S 100 ps_lodgeref3_Requant rs_lodgeref3_Requant x y := by
  intro x y h
  exact fun_spec E_ok mixed (cs_lodgeref3_Requant_ok S N) (f := 100) (fi := ⟨b_lodgeref3_Requant, 36, Go.Proofs.Tryd.f100.results.toList⟩) (by kernel_rfl) (ls := []) (.nil) (by kernel_rfl) (ps := ps_lodgeref3_Requant) (rs := rs_lodgeref3_Requant) (Eq.trans (b := F_lodgeref3_Requant N x.1 x.2.1 x.2.2.1 x.2.2.2.1) (by kernel_rfl) h)

/-! lodge/lodgeref3.Value -/

abbrev ps_lodgeref3_Value : List Ty := [(.int .i64), .bool, (.int .i64), (.int .i64), (.sl (.int .i64))]
abbrev rs_lodgeref3_Value : List Slot := [.data (.int .i64)]
abbrev cs_lodgeref3_Value (N : Nat) : List CallSpec := [c_lodgeref3_Cut N, c_lodgeref3_kept N, c_lodgeref3_Requant N]
noncomputable abbrev b_lodgeref3_Value : Code := (Go.Proofs.Tryd.f83.body).getD .skip

def F_lodgeref3_Value (N : Nat) (op_0 : Int) (wide_1 : Bool) (x_2 : Int) (y_3 : Int) (args_4 : List Int) : Option (Int × Unit) :=
  cond (decide (op_0 = (4 : Int)))
    (
    Option.bind (F_lodgeref3_kept N (wi64 (x_2 + y_3)) wide_1) fun y0 =>
    some y0)
    (
    cond (decide (op_0 = (5 : Int)))
      (
      Option.bind (F_lodgeref3_kept N (wi64 (x_2 - y_3)) wide_1) fun y1 =>
      some y1)
      (
      cond (decide (op_0 = (6 : Int)))
        (
        Option.bind (F_lodgeref3_kept N (wi64 (x_2 * y_3)) wide_1) fun y2 =>
        some y2)
        (
        cond (decide (op_0 = (7 : Int)))
          (
          some ((Go.Eng.imax x_2 y_3), ()))
          (
          cond (decide (op_0 = (8 : Int)))
            (
            some ((Go.Eng.imax x_2 (0 : Int)), ()))
            (
            cond (decide (op_0 = (9 : Int)))
              (
              cond (decide (0 < (List.length args_4)))
                (
                cond (decide (1 < (List.length args_4)))
                  (
                  Option.bind (F_lodgeref3_Cut N x_2 (List.getD args_4 0 (0 : Int)) (List.getD args_4 1 (0 : Int))) fun y3 =>
                  some y3)
                  (
                  none))
                (
                none))
              (
              cond (decide (op_0 = (10 : Int)))
                (
                cond (decide (0 < (List.length args_4)))
                  (
                  cond (decide (1 < (List.length args_4)))
                    (
                    cond (decide (2 < (List.length args_4)))
                      (
                      Option.bind (F_lodgeref3_Requant N x_2 (List.getD args_4 0 (0 : Int)) (List.getD args_4 1 (0 : Int)) (List.getD args_4 2 (0 : Int))) fun y4 =>
                      some y4)
                      (
                      none))
                    (
                    none))
                  (
                  none))
                (
                cond (decide (op_0 = (11 : Int)))
                  (
                  cond (decide (0 < (List.length args_4)))
                    (
                    some ((wi64 (x_2 - (List.getD args_4 0 (0 : Int)))), ()))
                    (
                    none))
                  (
                  some ((0 : Int), ())))))))))

abbrev c_lodgeref3_Value (N : Nat) : CallSpec := ⟨83, ps_lodgeref3_Value, rs_lodgeref3_Value, fun x => F_lodgeref3_Value N x.1 x.2.1 x.2.2.1 x.2.2.2.1 x.2.2.2.2.1⟩

theorem cs_lodgeref3_Value_ok (S : Nat → Addr) (N : Nat) : CallsOK Go.Proofs.Tryd.prog E S (cs_lodgeref3_Value N) :=
  .cons (F_lodgeref3_Cut_ok S N) (.cons (F_lodgeref3_kept_ok S N) (.cons (F_lodgeref3_Requant_ok S N) (.nil)))
theorem F_lodgeref3_Value_ok (S : Nat → Addr) (N : Nat) : ∀ x y, (c_lodgeref3_Value N).g x = some y → FCon Go.Proofs.Tryd.prog E S 83 ps_lodgeref3_Value rs_lodgeref3_Value x y := by
  intro x y h
  exact fun_spec E_ok mixed (cs_lodgeref3_Value_ok S N) (f := 83) (fi := ⟨b_lodgeref3_Value, 72, Go.Proofs.Tryd.f83.results.toList⟩) (by kernel_rfl) (ls := []) (.nil) (by kernel_rfl) (ps := ps_lodgeref3_Value) (rs := rs_lodgeref3_Value) (Eq.trans (b := F_lodgeref3_Value N x.1 x.2.1 x.2.2.1 x.2.2.2.1 x.2.2.2.2.1) (by kernel_rfl) h)

/-! lodge/lodgeref3.conv -/

abbrev ps_lodgeref3_conv : List Ty := [(.sl (.int .i64)), (.int .i64), (.st (.pair (.st (.pair (.sl (.int .i64)) .bool)) (.sl (.int .i64)))), (.st (.pair (.st (.pair (.sl (.int .i64)) .bool)) (.sl (.int .i64)))), (.st (.pair (.sl (.int .i64)) .bool))]
abbrev rs_lodgeref3_conv : List Slot := [.data (.int .i64)]
abbrev cs_lodgeref3_conv (N : Nat) : List CallSpec := [c_lodgeref3_Wide N]
noncomputable abbrev b_lodgeref3_conv : Code := (Go.Proofs.Tryd.f85.body).getD .skip

abbrev h_lodgeref3_conv_2 : List Slot := [.data (.sl (.int .i64)), .dead, .dead, .dead, .dead, .dead, .dead, .box [.d (.st (.pair (.st (.pair (.sl (.int .i64)) .bool)) (.sl (.int .i64))))], .box [.d (.st (.pair (.st (.pair (.sl (.int .i64)) .bool)) (.sl (.int .i64))))], .dead, .dead, .data (.int .i64), .data (.int .i64), .data (.int .i64), .data (.int .i64), .data (.int .i64), .data (.int .i64), .data (.int .i64), .data (.int .i64), .data (.int .i64), .data (.int .i64), .dead, .dead, .dead, .dead, .dead, .dead, .dead, .dead, .dead, .dead, .dead, .dead, .dead, .dead, .dead, .dead, .dead, .dead, .dead, .dead, .dead, .dead, .dead, .dead, .dead, .dead, .dead, .dead, .dead, .dead, .dead, .dead, .dead, .dead, .dead, .dead, .dead, .dead, .dead, .dead, .dead, .dead, .dead, .dead, .dead, .dead, .dead, .dead, .dead, .dead, .dead, .dead, .dead, .dead, .dead, .dead, .dead, .dead, .dead, .dead, .dead, .dead, .dead, .dead, .dead, .dead, .dead, .dead, .dead, .dead, .dead, .dead, .dead, .dead, .dead, .dead, .dead, .dead, .dead, .dead, .dead, .dead, .dead, .dead, .dead, .dead, .dead, .dead, .dead, .dead, .dead, .dead, .dead, .dead, .dead, .dead, .dead, .dead, .dead, .dead, .dead, .dead, .dead, .dead, .dead, .dead, .dead, .dead, .dead, .dead, .dead, .dead, .dead, .dead, .dead, .dead, .dead, .dead, .dead, .dead, .dead, .dead, .dead, .dead, .dead, .dead, .dead, .dead, .dead, .dead, .dead, .dead, .dead, .dead, .dead, .dead, .dead, .dead, .dead, .dead, .dead, .dead, .dead, .dead, .dead, .dead, .dead, .dead, .dead, .dead, .dead, .dead, .dead, .dead, .dead]
abbrev e_lodgeref3_conv_2 : List (AX × List Slot) := [(AX.exit 4, [.data (.sl (.int .i64)), .dead, .dead, .dead, .dead, .dead, .dead, .box [.d (.st (.pair (.st (.pair (.sl (.int .i64)) .bool)) (.sl (.int .i64))))], .box [.d (.st (.pair (.st (.pair (.sl (.int .i64)) .bool)) (.sl (.int .i64))))], .dead, .dead, .data (.int .i64), .data (.int .i64), .data (.int .i64), .data (.int .i64), .data (.int .i64), .data (.int .i64), .data (.int .i64), .dead, .dead, .dead, .dead, .dead, .dead, .dead, .dead, .dead, .dead, .dead, .dead, .dead, .dead, .dead, .dead, .dead, .dead, .dead, .dead, .dead, .dead, .dead, .dead, .dead, .dead, .dead, .dead, .dead, .dead, .dead, .dead, .dead, .dead, .dead, .dead, .dead, .dead, .dead, .dead, .dead, .dead, .dead, .dead, .dead, .dead, .dead, .dead, .dead, .dead, .dead, .dead, .dead, .dead, .dead, .dead, .dead, .dead, .dead, .dead, .dead, .dead, .dead, .dead, .dead, .dead, .dead, .dead, .dead, .dead, .dead, .dead, .dead, .dead, .dead, .dead, .dead, .dead, .dead, .dead, .dead, .dead, .dead, .dead, .dead, .dead, .dead, .dead, .dead, .dead, .dead, .dead, .dead, .dead, .dead, .dead, .dead, .dead, .dead, .dead, .dead, .dead, .dead, .dead, .dead, .dead, .dead, .dead, .dead, .dead, .dead, .dead, .dead, .dead, .dead, .dead, .dead, .dead, .dead, .dead, .dead, .dead, .dead, .dead, .dead, .dead, .dead, .dead, .dead, .dead, .dead, .dead, .dead, .dead, .dead, .dead, .dead, .dead, .dead, .dead, .dead, .dead, .dead, .dead, .dead, .dead, .dead, .dead, .dead, .dead, .dead, .dead, .dead, .dead, .dead, .dead, .dead, .dead])]
def g_lodgeref3_conv_2 (N : Nat) : Nat → List Int → (((List Int × Bool) × List Int) × Unit) → (((List Int × Bool) × List Int) × Unit) → Int → Int → Int → Int → Int → Int → Int → Int → Int → Int → Option (List Int × ((((List Int × Bool) × List Int) × Unit) × ((((List Int × Bool) × List Int) × Unit) × (Int × (Int × (Int × (Int × (Int × (Int × (Int × Unit))))))))))
  | 0, _, _, _, _, _, _, _, _, _, _, _, _, _ => none
  | n + 1, args_0, a_7, k_8, n_11, o_12, x_13, y_14, s_15, dy_16, dx_17, r_18, c_19, ch_20 =>
    cond (decide (2 < (List.length (((a_7).1).1).1)))
      (
      cond (decide (ch_20 < (List.getD (((a_7).1).1).1 2 (0 : Int))))
        (
        cond (decide (1 < (List.length (((a_7).1).1).1)))
          (
          cond (decide (2 < (List.length (((a_7).1).1).1)))
            (
            cond (decide ((0 : Int) ≤ (wi64 ((wi64 ((wi64 ((wi64 (r_18 * (List.getD (((a_7).1).1).1 1 (0 : Int)))) + c_19)) * (List.getD (((a_7).1).1).1 2 (0 : Int)))) + ch_20))))
              (
              cond (decide ((Int.toNat (wi64 ((wi64 ((wi64 ((wi64 (r_18 * (List.getD (((a_7).1).1).1 1 (0 : Int)))) + c_19)) * (List.getD (((a_7).1).1).1 2 (0 : Int)))) + ch_20))) < (List.length ((a_7).1).2)))
                (
                cond (decide (2 < (List.length args_0)))
                  (
                  cond (decide (1 < (List.length (((k_8).1).1).1)))
                    (
                    cond (decide (2 < (List.length (((k_8).1).1).1)))
                      (
                      cond (decide ((0 : Int) ≤ (wi64 ((wi64 ((wi64 ((wi64 ((wi64 ((wi64 (dy_16 * (List.getD (((k_8).1).1).1 1 (0 : Int)))) + dx_17)) * (List.getD (((k_8).1).1).1 2 (0 : Int)))) + ch_20)) * n_11)) + o_12))))
                        (
                        cond (decide ((Int.toNat (wi64 ((wi64 ((wi64 ((wi64 ((wi64 ((wi64 (dy_16 * (List.getD (((k_8).1).1).1 1 (0 : Int)))) + dx_17)) * (List.getD (((k_8).1).1).1 2 (0 : Int)))) + ch_20)) * n_11)) + o_12))) < (List.length ((k_8).1).2)))
                          (
                          (g_lodgeref3_conv_2 N n args_0 a_7 k_8 n_11 o_12 x_13 y_14 (wi64 (s_15 + (wi64 ((wi64 ((List.getD ((a_7).1).2 (Int.toNat (wi64 ((wi64 ((wi64 ((wi64 (r_18 * (List.getD (((a_7).1).1).1 1 (0 : Int)))) + c_19)) * (List.getD (((a_7).1).1).1 2 (0 : Int)))) + ch_20))) (0 : Int)) - (List.getD args_0 2 (0 : Int)))) * (List.getD ((k_8).1).2 (Int.toNat (wi64 ((wi64 ((wi64 ((wi64 ((wi64 ((wi64 (dy_16 * (List.getD (((k_8).1).1).1 1 (0 : Int)))) + dx_17)) * (List.getD (((k_8).1).1).1 2 (0 : Int)))) + ch_20)) * n_11)) + o_12))) (0 : Int)))))) dy_16 dx_17 r_18 c_19 (wi64 (ch_20 + (1 : Int)))))
                          (
                          none))
                        (
                        none))
                      (
                      none))
                    (
                    none))
                  (
                  none))
                (
                none))
              (
              none))
            (
            none))
          (
          none))
        (
        some (args_0, (a_7, (k_8, (n_11, (o_12, (x_13, (y_14, (s_15, (dy_16, (dx_17, ()))))))))))))
      (
      none)

abbrev h_lodgeref3_conv_1 : List Slot := [.data (.sl (.int .i64)), .dead, .dead, .dead, .dead, .dead, .dead, .box [.d (.st (.pair (.st (.pair (.sl (.int .i64)) .bool)) (.sl (.int .i64))))], .box [.d (.st (.pair (.st (.pair (.sl (.int .i64)) .bool)) (.sl (.int .i64))))], .dead, .dead, .data (.int .i64), .data (.int .i64), .data (.int .i64), .data (.int .i64), .data (.int .i64), .data (.int .i64), .data (.int .i64), .dead, .dead, .dead, .dead, .dead, .dead, .dead, .dead, .dead, .dead, .dead, .dead, .dead, .dead, .dead, .dead, .dead, .dead, .dead, .dead, .dead, .dead, .dead, .dead, .dead, .dead, .dead, .dead, .dead, .dead, .dead, .dead, .dead, .dead, .dead, .dead, .dead, .dead, .dead, .dead, .dead, .dead, .dead, .dead, .dead, .dead, .dead, .dead, .dead, .dead, .dead, .dead, .dead, .dead, .dead, .dead, .dead, .dead, .dead, .dead, .dead, .dead, .dead, .dead, .dead, .dead, .dead, .dead, .dead, .dead, .dead, .dead, .dead, .dead, .dead, .dead, .dead, .dead, .dead, .dead, .dead, .dead, .dead, .dead, .dead, .dead, .dead, .dead, .dead, .dead, .dead, .dead, .dead, .dead, .dead, .dead, .dead, .dead, .dead, .dead, .dead, .dead, .dead, .dead, .dead, .dead, .dead, .dead, .dead, .dead, .dead, .dead, .dead, .dead, .dead, .dead, .dead, .dead, .dead, .dead, .dead, .dead, .dead, .dead, .dead, .dead, .dead, .dead, .dead, .dead, .dead, .dead, .dead, .dead, .dead, .dead, .dead, .dead, .dead, .dead, .dead, .dead, .dead, .dead, .dead, .dead, .dead, .dead, .dead, .dead, .dead, .dead, .dead, .dead, .dead, .dead, .dead, .dead]
abbrev e_lodgeref3_conv_1 : List (AX × List Slot) := [(AX.exit 2, [.data (.sl (.int .i64)), .dead, .dead, .dead, .dead, .dead, .dead, .box [.d (.st (.pair (.st (.pair (.sl (.int .i64)) .bool)) (.sl (.int .i64))))], .box [.d (.st (.pair (.st (.pair (.sl (.int .i64)) .bool)) (.sl (.int .i64))))], .dead, .dead, .data (.int .i64), .data (.int .i64), .data (.int .i64), .data (.int .i64), .data (.int .i64), .data (.int .i64), .dead, .dead, .dead, .dead, .dead, .dead, .dead, .dead, .dead, .dead, .dead, .dead, .dead, .dead, .dead, .dead, .dead, .dead, .dead, .dead, .dead, .dead, .dead, .dead, .dead, .dead, .dead, .dead, .dead, .dead, .dead, .dead, .dead, .dead, .dead, .dead, .dead, .dead, .dead, .dead, .dead, .dead, .dead, .dead, .dead, .dead, .dead, .dead, .dead, .dead, .dead, .dead, .dead, .dead, .dead, .dead, .dead, .dead, .dead, .dead, .dead, .dead, .dead, .dead, .dead, .dead, .dead, .dead, .dead, .dead, .dead, .dead, .dead, .dead, .dead, .dead, .dead, .dead, .dead, .dead, .dead, .dead, .dead, .dead, .dead, .dead, .dead, .dead, .dead, .dead, .dead, .dead, .dead, .dead, .dead, .dead, .dead, .dead, .dead, .dead, .dead, .dead, .dead, .dead, .dead, .dead, .dead, .dead, .dead, .dead, .dead, .dead, .dead, .dead, .dead, .dead, .dead, .dead, .dead, .dead, .dead, .dead, .dead, .dead, .dead, .dead, .dead, .dead, .dead, .dead, .dead, .dead, .dead, .dead, .dead, .dead, .dead, .dead, .dead, .dead, .dead, .dead, .dead, .dead, .dead, .dead, .dead, .dead, .dead, .dead, .dead, .dead, .dead, .dead, .dead, .dead, .dead, .dead, .dead])]
def g_lodgeref3_conv_1 (N : Nat) : Nat → List Int → (((List Int × Bool) × List Int) × Unit) → (((List Int × Bool) × List Int) × Unit) → Int → Int → Int → Int → Int → Int → Int → Option (List Int × ((((List Int × Bool) × List Int) × Unit) × ((((List Int × Bool) × List Int) × Unit) × (Int × (Int × (Int × (Int × (Int × (Int × Unit)))))))))
  | 0, _, _, _, _, _, _, _, _, _, _ => none
  | n + 1, args_0, a_7, k_8, n_11, o_12, x_13, y_14, s_15, dy_16, dx_17 =>
    cond (decide (1 < (List.length (((k_8).1).1).1)))
      (
      cond (decide (dx_17 < (List.getD (((k_8).1).1).1 1 (0 : Int))))
        (
        cond (decide (0 < (List.length args_0)))
          (
          cond (decide (1 < (List.length args_0)))
            (
            cond (decide (0 < (List.length args_0)))
              (
              cond (decide (1 < (List.length args_0)))
                (
                cond (decide ((wi64 ((wi64 ((wi64 (y_14 * (List.getD args_0 0 (0 : Int)))) - (List.getD args_0 1 (0 : Int)))) + dy_16)) < (0 : Int)))
                  (
                  (g_lodgeref3_conv_1 N n args_0 a_7 k_8 n_11 o_12 x_13 y_14 s_15 dy_16 (wi64 (dx_17 + (1 : Int)))))
                  (
                  cond (decide ((wi64 ((wi64 ((wi64 (x_13 * (List.getD args_0 0 (0 : Int)))) - (List.getD args_0 1 (0 : Int)))) + dx_17)) < (0 : Int)))
                    (
                    (g_lodgeref3_conv_1 N n args_0 a_7 k_8 n_11 o_12 x_13 y_14 s_15 dy_16 (wi64 (dx_17 + (1 : Int)))))
                    (
                    cond (decide (0 < (List.length (((a_7).1).1).1)))
                      (
                      cond (decide ((List.getD (((a_7).1).1).1 0 (0 : Int)) ≤ (wi64 ((wi64 ((wi64 (y_14 * (List.getD args_0 0 (0 : Int)))) - (List.getD args_0 1 (0 : Int)))) + dy_16))))
                        (
                        (g_lodgeref3_conv_1 N n args_0 a_7 k_8 n_11 o_12 x_13 y_14 s_15 dy_16 (wi64 (dx_17 + (1 : Int)))))
                        (
                        cond (decide (1 < (List.length (((a_7).1).1).1)))
                          (
                          cond (decide ((List.getD (((a_7).1).1).1 1 (0 : Int)) ≤ (wi64 ((wi64 ((wi64 (x_13 * (List.getD args_0 0 (0 : Int)))) - (List.getD args_0 1 (0 : Int)))) + dx_17))))
                            (
                            (g_lodgeref3_conv_1 N n args_0 a_7 k_8 n_11 o_12 x_13 y_14 s_15 dy_16 (wi64 (dx_17 + (1 : Int)))))
                            (
                            Option.bind (g_lodgeref3_conv_2 N N args_0 a_7 k_8 n_11 o_12 x_13 y_14 s_15 dy_16 dx_17 (wi64 ((wi64 ((wi64 (y_14 * (List.getD args_0 0 (0 : Int)))) - (List.getD args_0 1 (0 : Int)))) + dy_16)) (wi64 ((wi64 ((wi64 (x_13 * (List.getD args_0 0 (0 : Int)))) - (List.getD args_0 1 (0 : Int)))) + dx_17)) (0 : Int)) fun y1 =>
                            (g_lodgeref3_conv_1 N n (y1).1 ((y1).2).1 (((y1).2).2).1 ((((y1).2).2).2).1 (((((y1).2).2).2).2).1 ((((((y1).2).2).2).2).2).1 (((((((y1).2).2).2).2).2).2).1 ((((((((y1).2).2).2).2).2).2).2).1 (((((((((y1).2).2).2).2).2).2).2).2).1 (wi64 (((((((((((y1).2).2).2).2).2).2).2).2).2).1 + (1 : Int))))))
                          (
                          none)))
                      (
                      none))))
                (
                none))
              (
              none))
            (
            none))
          (
          none))
        (
        some (args_0, (a_7, (k_8, (n_11, (o_12, (x_13, (y_14, (s_15, (dy_16, ())))))))))))
      (
      none)

abbrev h_lodgeref3_conv_0 : List Slot := [.data (.sl (.int .i64)), .dead, .dead, .dead, .dead, .dead, .dead, .box [.d (.st (.pair (.st (.pair (.sl (.int .i64)) .bool)) (.sl (.int .i64))))], .box [.d (.st (.pair (.st (.pair (.sl (.int .i64)) .bool)) (.sl (.int .i64))))], .dead, .dead, .data (.int .i64), .data (.int .i64), .data (.int .i64), .data (.int .i64), .data (.int .i64), .data (.int .i64), .dead, .dead, .dead, .dead, .dead, .dead, .dead, .dead, .dead, .dead, .dead, .dead, .dead, .dead, .dead, .dead, .dead, .dead, .dead, .dead, .dead, .dead, .dead, .dead, .dead, .dead, .dead, .dead, .dead, .dead, .dead, .dead, .dead, .dead, .dead, .dead, .dead, .dead, .dead, .dead, .dead, .dead, .dead, .dead, .dead, .dead, .dead, .dead, .dead, .dead, .dead, .dead, .dead, .dead, .dead, .dead, .dead, .dead, .dead, .dead, .dead, .dead, .dead, .dead, .dead, .dead, .dead, .dead, .dead, .dead, .dead, .dead, .dead, .dead, .dead, .dead, .dead, .dead, .dead, .dead, .dead, .dead, .dead, .dead, .dead, .dead, .dead, .dead, .dead, .dead, .dead, .dead, .dead, .dead, .dead, .dead, .dead, .dead, .dead, .dead, .dead, .dead, .dead, .dead, .dead, .dead, .dead, .dead, .dead, .dead, .dead, .dead, .dead, .dead, .dead, .dead, .dead, .dead, .dead, .dead, .dead, .dead, .dead, .dead, .dead, .dead, .dead, .dead, .dead, .dead, .dead, .dead, .dead, .dead, .dead, .dead, .dead, .dead, .dead, .dead, .dead, .dead, .dead, .dead, .dead, .dead, .dead, .dead, .dead, .dead, .dead, .dead, .dead, .dead, .dead, .dead, .dead, .dead, .dead]
abbrev e_lodgeref3_conv_0 : List (AX × List Slot) := [(AX.exit 0, [.dead, .dead, .dead, .dead, .dead, .dead, .dead, .dead, .dead, .dead, .dead, .dead, .dead, .dead, .dead, .data (.int .i64), .dead, .dead, .dead, .dead, .dead, .dead, .dead, .dead, .dead, .dead, .dead, .dead, .dead, .dead, .dead, .dead, .dead, .dead, .dead, .dead, .dead, .dead, .dead, .dead, .dead, .dead, .dead, .dead, .dead, .dead, .dead, .dead, .dead, .dead, .dead, .dead, .dead, .dead, .dead, .dead, .dead, .dead, .dead, .dead, .dead, .dead, .dead, .dead, .dead, .dead, .dead, .dead, .dead, .dead, .dead, .dead, .dead, .dead, .dead, .dead, .dead, .dead, .dead, .dead, .dead, .dead, .dead, .dead, .dead, .dead, .dead, .dead, .dead, .dead, .dead, .dead, .dead, .dead, .dead, .dead, .dead, .dead, .dead, .dead, .dead, .dead, .dead, .dead, .dead, .dead, .dead, .dead, .dead, .dead, .dead, .dead, .dead, .dead, .dead, .dead, .dead, .dead, .dead, .dead, .dead, .dead, .dead, .dead, .dead, .dead, .dead, .dead, .dead, .dead, .dead, .dead, .dead, .dead, .dead, .dead, .dead, .dead, .dead, .dead, .dead, .dead, .dead, .dead, .dead, .dead, .dead, .dead, .dead, .dead, .dead, .dead, .dead, .dead, .dead, .dead, .dead, .dead, .dead, .dead, .dead, .dead, .dead, .dead, .dead, .dead, .dead, .dead, .dead, .dead, .dead, .dead, .dead, .dead, .dead, .dead])]
def g_lodgeref3_conv_0 (N : Nat) : Nat → List Int → (((List Int × Bool) × List Int) × Unit) → (((List Int × Bool) × List Int) × Unit) → Int → Int → Int → Int → Int → Int → Option (Int × Unit)
  | 0, _, _, _, _, _, _, _, _, _ => none
  | n + 1, args_0, a_7, k_8, n_11, o_12, x_13, y_14, s_15, dy_16 =>
    cond (decide (0 < (List.length (((k_8).1).1).1)))
      (
      cond (decide (dy_16 < (List.getD (((k_8).1).1).1 0 (0 : Int))))
        (
        Option.bind (g_lodgeref3_conv_1 N N args_0 a_7 k_8 n_11 o_12 x_13 y_14 s_15 dy_16 (0 : Int)) fun y3 =>
        (g_lodgeref3_conv_0 N n (y3).1 ((y3).2).1 (((y3).2).2).1 ((((y3).2).2).2).1 (((((y3).2).2).2).2).1 ((((((y3).2).2).2).2).2).1 (((((((y3).2).2).2).2).2).2).1 ((((((((y3).2).2).2).2).2).2).2).1 (wi64 ((((((((((y3).2).2).2).2).2).2).2).2).1 + (1 : Int)))))
        (
        some (s_15, ())))
      (
      none)

def F_lodgeref3_conv (N : Nat) (args_0 : List Int) (i_1 : Int) (a_2 : ((List Int × Bool) × List Int)) (k_3 : ((List Int × Bool) × List Int)) (d_4 : (List Int × Bool)) : Option (Int × Unit) :=
  cond (decide (2 < (List.length (d_4).1)))
    (
    cond (decide (@Ne Int (List.getD (d_4).1 2 (0 : Int)) (0 : Int)))
      (
      cond (decide (@Ne Int (List.getD (d_4).1 2 (0 : Int)) (0 : Int)))
        (
        cond (decide (1 < (List.length (d_4).1)))
          (
          cond (decide (@Ne Int (List.getD (d_4).1 1 (0 : Int)) (0 : Int)))
            (
            cond (decide (@Ne Int (List.getD (d_4).1 2 (0 : Int)) (0 : Int)))
              (
              cond (decide (1 < (List.length (d_4).1)))
                (
                cond (decide (@Ne Int (List.getD (d_4).1 1 (0 : Int)) (0 : Int)))
                  (
                  Option.bind (g_lodgeref3_conv_0 N N args_0 (a_2, ()) (k_3, ()) (List.getD (d_4).1 2 (0 : Int)) (Int.tmod i_1 (List.getD (d_4).1 2 (0 : Int))) (Int.tmod (wi64 (Int.tdiv i_1 (List.getD (d_4).1 2 (0 : Int)))) (List.getD (d_4).1 1 (0 : Int))) (wi64 (Int.tdiv (wi64 (Int.tdiv i_1 (List.getD (d_4).1 2 (0 : Int)))) (List.getD (d_4).1 1 (0 : Int)))) (0 : Int) (0 : Int)) fun y0 =>
                  Option.bind (F_lodgeref3_Wide N (y0).1) fun y1 =>
                  some y1)
                  (
                  none))
                (
                none))
              (
              none))
            (
            none))
          (
          none))
        (
        none))
      (
      none))
    (
    none)

abbrev c_lodgeref3_conv (N : Nat) : CallSpec := ⟨85, ps_lodgeref3_conv, rs_lodgeref3_conv, fun x => F_lodgeref3_conv N x.1 x.2.1 x.2.2.1 x.2.2.2.1 x.2.2.2.2.1⟩
abbrev l_lodgeref3_conv_2 (N : Nat) : LoopSpec := ⟨2, h_lodgeref3_conv_2, e_lodgeref3_conv_2, fun x => g_lodgeref3_conv_2 N N x.1 x.2.1 x.2.2.1 x.2.2.2.1 x.2.2.2.2.1 x.2.2.2.2.2.1 x.2.2.2.2.2.2.1 x.2.2.2.2.2.2.2.1 x.2.2.2.2.2.2.2.2.1 x.2.2.2.2.2.2.2.2.2.1 x.2.2.2.2.2.2.2.2.2.2.1 x.2.2.2.2.2.2.2.2.2.2.2.1 x.2.2.2.2.2.2.2.2.2.2.2.2.1⟩
abbrev l_lodgeref3_conv_1 (N : Nat) : LoopSpec := ⟨1, h_lodgeref3_conv_1, e_lodgeref3_conv_1, fun x => g_lodgeref3_conv_1 N N x.1 x.2.1 x.2.2.1 x.2.2.2.1 x.2.2.2.2.1 x.2.2.2.2.2.1 x.2.2.2.2.2.2.1 x.2.2.2.2.2.2.2.1 x.2.2.2.2.2.2.2.2.1 x.2.2.2.2.2.2.2.2.2.1⟩
abbrev l_lodgeref3_conv_0 (N : Nat) : LoopSpec := ⟨0, h_lodgeref3_conv_0, e_lodgeref3_conv_0, fun x => g_lodgeref3_conv_0 N N x.1 x.2.1 x.2.2.1 x.2.2.2.1 x.2.2.2.2.1 x.2.2.2.2.2.1 x.2.2.2.2.2.2.1 x.2.2.2.2.2.2.2.1 x.2.2.2.2.2.2.2.2.1⟩

theorem cs_lodgeref3_conv_ok (S : Nat → Addr) (N : Nat) : CallsOK Go.Proofs.Tryd.prog E S (cs_lodgeref3_conv N) :=
  .cons (F_lodgeref3_Wide_ok S N) (.nil)
noncomputable abbrev b_lodgeref3_conv_2 : Code := (loopsOf b_lodgeref3_conv).getD 2 .skip
theorem g_lodgeref3_conv_2_ok (S : Nat → Addr) (N : Nat) : ∀ n x y, (fun (x : Val (slotsTy h_lodgeref3_conv_2)) => g_lodgeref3_conv_2 N n x.1 x.2.1 x.2.2.1 x.2.2.2.1 x.2.2.2.2.1 x.2.2.2.2.2.1 x.2.2.2.2.2.2.1 x.2.2.2.2.2.2.2.1 x.2.2.2.2.2.2.2.2.1 x.2.2.2.2.2.2.2.2.2.1 x.2.2.2.2.2.2.2.2.2.2.1 x.2.2.2.2.2.2.2.2.2.2.2.1 x.2.2.2.2.2.2.2.2.2.2.2.2.1) x = some y → LoopCon Go.Proofs.Tryd.prog E S b_lodgeref3_conv_2 (encSlots h_lodgeref3_conv_2 x) (encEx e_lodgeref3_conv_2 y).1 (encEx e_lodgeref3_conv_2 y).2 :=
  loop_spec E_ok mixed (cs_lodgeref3_conv_ok S N) (all := loopsOf b_lodgeref3_conv) (ls := []) (.nil) (i := 2) (by kernel_rfl) (inner_of (by kernel_rfl)) (head := h_lodgeref3_conv_2) (ex := e_lodgeref3_conv_2) (fun n (x : Val (slotsTy h_lodgeref3_conv_2)) => g_lodgeref3_conv_2 N n x.1 x.2.1 x.2.2.1 x.2.2.2.1 x.2.2.2.2.1 x.2.2.2.2.2.1 x.2.2.2.2.2.2.1 x.2.2.2.2.2.2.2.1 x.2.2.2.2.2.2.2.2.1 x.2.2.2.2.2.2.2.2.2.1 x.2.2.2.2.2.2.2.2.2.2.1 x.2.2.2.2.2.2.2.2.2.2.2.1 x.2.2.2.2.2.2.2.2.2.2.2.2.1) (fun _ => rfl) (fun n x => by kernel_rfl)
noncomputable abbrev b_lodgeref3_conv_1 : Code := (loopsOf b_lodgeref3_conv).getD 1 .skip
theorem g_lodgeref3_conv_1_ok (S : Nat → Addr) (N : Nat) : ∀ n x y, (fun (x : Val (slotsTy h_lodgeref3_conv_1)) => g_lodgeref3_conv_1 N n x.1 x.2.1 x.2.2.1 x.2.2.2.1 x.2.2.2.2.1 x.2.2.2.2.2.1 x.2.2.2.2.2.2.1 x.2.2.2.2.2.2.2.1 x.2.2.2.2.2.2.2.2.1 x.2.2.2.2.2.2.2.2.2.1) x = some y → LoopCon Go.Proofs.Tryd.prog E S b_lodgeref3_conv_1 (encSlots h_lodgeref3_conv_1 x) (encEx e_lodgeref3_conv_1 y).1 (encEx e_lodgeref3_conv_1 y).2 :=
  loop_spec E_ok mixed (cs_lodgeref3_conv_ok S N) (all := loopsOf b_lodgeref3_conv) (ls := [l_lodgeref3_conv_2 N]) (.cons (by kernel_rfl) (g_lodgeref3_conv_2_ok S N N) (.nil)) (i := 1) (by kernel_rfl) (inner_of (by kernel_rfl)) (head := h_lodgeref3_conv_1) (ex := e_lodgeref3_conv_1) (fun n (x : Val (slotsTy h_lodgeref3_conv_1)) => g_lodgeref3_conv_1 N n x.1 x.2.1 x.2.2.1 x.2.2.2.1 x.2.2.2.2.1 x.2.2.2.2.2.1 x.2.2.2.2.2.2.1 x.2.2.2.2.2.2.2.1 x.2.2.2.2.2.2.2.2.1 x.2.2.2.2.2.2.2.2.2.1) (fun _ => rfl) (fun n x => by kernel_rfl)
noncomputable abbrev b_lodgeref3_conv_0 : Code := (loopsOf b_lodgeref3_conv).getD 0 .skip
theorem g_lodgeref3_conv_0_ok (S : Nat → Addr) (N : Nat) : ∀ n x y, (fun (x : Val (slotsTy h_lodgeref3_conv_0)) => g_lodgeref3_conv_0 N n x.1 x.2.1 x.2.2.1 x.2.2.2.1 x.2.2.2.2.1 x.2.2.2.2.2.1 x.2.2.2.2.2.2.1 x.2.2.2.2.2.2.2.1 x.2.2.2.2.2.2.2.2.1) x = some y → LoopCon Go.Proofs.Tryd.prog E S b_lodgeref3_conv_0 (encSlots h_lodgeref3_conv_0 x) (encEx e_lodgeref3_conv_0 y).1 (encEx e_lodgeref3_conv_0 y).2 :=
  loop_spec E_ok mixed (cs_lodgeref3_conv_ok S N) (all := loopsOf b_lodgeref3_conv) (ls := [l_lodgeref3_conv_2 N, l_lodgeref3_conv_1 N]) (.cons (by kernel_rfl) (g_lodgeref3_conv_2_ok S N N) (.cons (by kernel_rfl) (g_lodgeref3_conv_1_ok S N N) (.nil))) (i := 0) (by kernel_rfl) (inner_of (by kernel_rfl)) (head := h_lodgeref3_conv_0) (ex := e_lodgeref3_conv_0) (fun n (x : Val (slotsTy h_lodgeref3_conv_0)) => g_lodgeref3_conv_0 N n x.1 x.2.1 x.2.2.1 x.2.2.2.1 x.2.2.2.2.1 x.2.2.2.2.2.1 x.2.2.2.2.2.2.1 x.2.2.2.2.2.2.2.1 x.2.2.2.2.2.2.2.2.1) (fun _ => rfl) (fun n x => by kernel_rfl)
theorem F_lodgeref3_conv_ok (S : Nat → Addr) (N : Nat) : ∀ x y, (c_lodgeref3_conv N).g x = some y → FCon Go.Proofs.Tryd.prog E S 85 ps_lodgeref3_conv rs_lodgeref3_conv x y := by
  intro x y h
  exact fun_spec E_ok mixed (cs_lodgeref3_conv_ok S N) (f := 85) (fi := ⟨b_lodgeref3_conv, 176, Go.Proofs.Tryd.f85.results.toList⟩) (by kernel_rfl) (ls := [l_lodgeref3_conv_2 N, l_lodgeref3_conv_1 N, l_lodgeref3_conv_0 N]) (.cons (by kernel_rfl) (g_lodgeref3_conv_2_ok S N N) (.cons (by kernel_rfl) (g_lodgeref3_conv_1_ok S N N) (.cons (by kernel_rfl) (g_lodgeref3_conv_0_ok S N N) (.nil)))) (by kernel_rfl) (ps := ps_lodgeref3_conv) (rs := rs_lodgeref3_conv) (Eq.trans (b := F_lodgeref3_conv N x.1 x.2.1 x.2.2.1 x.2.2.2.1 x.2.2.2.2.1) (by kernel_rfl) h)

/-! lodge/lodgeref3.div -/

abbrev ps_lodgeref3_div : List Ty := [(.int .i64), (.int .i64)]
abbrev rs_lodgeref3_div : List Slot := [.data (.int .i64)]
abbrev cs_lodgeref3_div (N : Nat) : List CallSpec := []
noncomputable abbrev b_lodgeref3_div : Code := (Go.Proofs.Tryd.f101.body).getD .skip

def F_lodgeref3_div (N : Nat) (a_0 : Int) (b_1 : Int) : Option (Int × Unit) :=
  cond (decide (@Ne Int b_1 (0 : Int)))
    (
    cond (decide (@Ne Int b_1 (0 : Int)))
      (
      cond (decide ((Int.tmod a_0 b_1) < (0 : Int)))
        (
        some ((wi64 ((wi64 (Int.tdiv a_0 b_1)) - (1 : Int))), ()))
        (
        some ((wi64 (Int.tdiv a_0 b_1)), ())))
      (
      none))
    (
    none)

abbrev c_lodgeref3_div (N : Nat) : CallSpec := ⟨101, ps_lodgeref3_div, rs_lodgeref3_div, fun x => F_lodgeref3_div N x.1 x.2.1⟩

theorem cs_lodgeref3_div_ok (S : Nat → Addr) (N : Nat) : CallsOK Go.Proofs.Tryd.prog E S (cs_lodgeref3_div N) :=
  .nil
theorem F_lodgeref3_div_ok (S : Nat → Addr) (N : Nat) : ∀ x y, (c_lodgeref3_div N).g x = some y → FCon Go.Proofs.Tryd.prog E S 101 ps_lodgeref3_div rs_lodgeref3_div x y := by
  intro x y h
  exact fun_spec E_ok mixed (cs_lodgeref3_div_ok S N) (f := 101) (fi := ⟨b_lodgeref3_div, 16, Go.Proofs.Tryd.f101.results.toList⟩) (by kernel_rfl) (ls := []) (.nil) (by kernel_rfl) (ps := ps_lodgeref3_div) (rs := rs_lodgeref3_div) (Eq.trans (b := F_lodgeref3_div N x.1 x.2.1) (by kernel_rfl) h)

/-! lodge/lodgeref3.pool -/

abbrev ps_lodgeref3_pool : List Ty := [.bool, (.sl (.int .i64)), (.int .i64), (.st (.pair (.st (.pair (.sl (.int .i64)) .bool)) (.sl (.int .i64)))), (.st (.pair (.sl (.int .i64)) .bool))]
abbrev rs_lodgeref3_pool : List Slot := [.data (.int .i64)]
abbrev cs_lodgeref3_pool (N : Nat) : List CallSpec := [c_lodgeref3_div N]
noncomputable abbrev b_lodgeref3_pool : Code := (Go.Proofs.Tryd.f86.body).getD .skip

abbrev h_lodgeref3_pool_1 : List Slot := [.data .bool, .data (.sl (.int .i64)), .dead, .dead, .dead, .dead, .dead, .dead, .box [.d (.st (.pair (.st (.pair (.sl (.int .i64)) .bool)) (.sl (.int .i64))))], .dead, .dead, .data (.int .i64), .data (.int .i64), .data (.int .i64), .data (.int .i64), .data (.int .i64), .data (.int .i64), .data (.int .i64), .data (.int .i64), .dead, .dead, .dead, .dead, .dead, .dead, .dead, .dead, .dead, .dead, .dead, .dead, .dead, .dead, .dead, .dead, .dead, .dead, .dead, .dead, .dead, .dead, .dead, .dead, .dead, .dead, .dead, .dead, .dead, .dead, .dead, .dead, .dead, .dead, .dead, .dead, .dead, .dead, .dead, .dead, .dead, .dead, .dead, .dead, .dead, .dead, .dead, .dead, .dead, .dead, .dead, .dead, .dead, .dead, .dead, .dead, .dead, .dead, .dead, .dead, .dead, .dead, .dead, .dead, .dead, .dead, .dead, .dead, .dead, .dead, .dead, .dead, .dead, .dead, .dead, .dead, .dead, .dead, .dead, .dead, .dead, .dead, .dead, .dead, .dead, .dead, .dead, .dead, .dead, .dead, .dead, .dead, .dead, .dead, .dead, .dead, .dead, .dead, .dead]
abbrev e_lodgeref3_pool_1 : List (AX × List Slot) := [(AX.exit 2, [.data .bool, .data (.sl (.int .i64)), .dead, .dead, .dead, .dead, .dead, .dead, .box [.d (.st (.pair (.st (.pair (.sl (.int .i64)) .bool)) (.sl (.int .i64))))], .dead, .dead, .data (.int .i64), .data (.int .i64), .data (.int .i64), .data (.int .i64), .data (.int .i64), .data (.int .i64), .data (.int .i64), .dead, .dead, .dead, .dead, .dead, .dead, .dead, .dead, .dead, .dead, .dead, .dead, .dead, .dead, .dead, .dead, .dead, .dead, .dead, .dead, .dead, .dead, .dead, .dead, .dead, .dead, .dead, .dead, .dead, .dead, .dead, .dead, .dead, .dead, .dead, .dead, .dead, .dead, .dead, .dead, .dead, .dead, .dead, .dead, .dead, .dead, .dead, .dead, .dead, .dead, .dead, .dead, .dead, .dead, .dead, .dead, .dead, .dead, .dead, .dead, .dead, .dead, .dead, .dead, .dead, .dead, .dead, .dead, .dead, .dead, .dead, .dead, .dead, .dead, .dead, .dead, .dead, .dead, .dead, .dead, .dead, .dead, .dead, .dead, .dead, .dead, .dead, .dead, .dead, .dead, .dead, .dead, .dead, .dead, .dead, .dead, .dead, .dead, .dead, .dead])]
def g_lodgeref3_pool_1 (N : Nat) : Nat → Bool → List Int → (((List Int × Bool) × List Int) × Unit) → Int → Int → Int → Int → Int → Int → Int → Int → Option (Bool × (List Int × ((((List Int × Bool) × List Int) × Unit) × (Int × (Int × (Int × (Int × (Int × (Int × (Int × Unit))))))))))
  | 0, _, _, _, _, _, _, _, _, _, _, _ => none
  | n + 1, avg_0, args_1, a_8, c_11, ch_12, x_13, y_14, s_15, best_16, dy_17, dx_18 =>
    cond (decide (0 < (List.length args_1)))
      (
      cond (decide (dx_18 < (List.getD args_1 0 (0 : Int))))
        (
        cond (decide (1 < (List.length args_1)))
          (
          cond (decide (1 < (List.length (((a_8).1).1).1)))
            (
            cond (decide (1 < (List.length args_1)))
              (
              cond (decide ((0 : Int) ≤ (wi64 ((wi64 ((wi64 ((wi64 ((wi64 ((wi64 ((wi64 (y_14 * (List.getD args_1 1 (0 : Int)))) + dy_17)) * (List.getD (((a_8).1).1).1 1 (0 : Int)))) + (wi64 (x_13 * (List.getD args_1 1 (0 : Int)))))) + dx_18)) * c_11)) + ch_12))))
                (
                cond (decide ((Int.toNat (wi64 ((wi64 ((wi64 ((wi64 ((wi64 ((wi64 ((wi64 (y_14 * (List.getD args_1 1 (0 : Int)))) + dy_17)) * (List.getD (((a_8).1).1).1 1 (0 : Int)))) + (wi64 (x_13 * (List.getD args_1 1 (0 : Int)))))) + dx_18)) * c_11)) + ch_12))) < (List.length ((a_8).1).2)))
                  (
                  cond (decide (dy_17 = (0 : Int)))
                    (
                    cond (decide (dx_18 = (0 : Int)))
                      (
                      (g_lodgeref3_pool_1 N n avg_0 args_1 a_8 c_11 ch_12 x_13 y_14 (wi64 (s_15 + (List.getD ((a_8).1).2 (Int.toNat (wi64 ((wi64 ((wi64 ((wi64 ((wi64 ((wi64 ((wi64 (y_14 * (List.getD args_1 1 (0 : Int)))) + dy_17)) * (List.getD (((a_8).1).1).1 1 (0 : Int)))) + (wi64 (x_13 * (List.getD args_1 1 (0 : Int)))))) + dx_18)) * c_11)) + ch_12))) (0 : Int)))) (List.getD ((a_8).1).2 (Int.toNat (wi64 ((wi64 ((wi64 ((wi64 ((wi64 ((wi64 ((wi64 (y_14 * (List.getD args_1 1 (0 : Int)))) + dy_17)) * (List.getD (((a_8).1).1).1 1 (0 : Int)))) + (wi64 (x_13 * (List.getD args_1 1 (0 : Int)))))) + dx_18)) * c_11)) + ch_12))) (0 : Int)) dy_17 (wi64 (dx_18 + (1 : Int)))))
                      (
                      cond (decide (best_16 < (List.getD ((a_8).1).2 (Int.toNat (wi64 ((wi64 ((wi64 ((wi64 ((wi64 ((wi64 ((wi64 (y_14 * (List.getD args_1 1 (0 : Int)))) + dy_17)) * (List.getD (((a_8).1).1).1 1 (0 : Int)))) + (wi64 (x_13 * (List.getD args_1 1 (0 : Int)))))) + dx_18)) * c_11)) + ch_12))) (0 : Int))))
                        (
                        (g_lodgeref3_pool_1 N n avg_0 args_1 a_8 c_11 ch_12 x_13 y_14 (wi64 (s_15 + (List.getD ((a_8).1).2 (Int.toNat (wi64 ((wi64 ((wi64 ((wi64 ((wi64 ((wi64 ((wi64 (y_14 * (List.getD args_1 1 (0 : Int)))) + dy_17)) * (List.getD (((a_8).1).1).1 1 (0 : Int)))) + (wi64 (x_13 * (List.getD args_1 1 (0 : Int)))))) + dx_18)) * c_11)) + ch_12))) (0 : Int)))) (List.getD ((a_8).1).2 (Int.toNat (wi64 ((wi64 ((wi64 ((wi64 ((wi64 ((wi64 ((wi64 (y_14 * (List.getD args_1 1 (0 : Int)))) + dy_17)) * (List.getD (((a_8).1).1).1 1 (0 : Int)))) + (wi64 (x_13 * (List.getD args_1 1 (0 : Int)))))) + dx_18)) * c_11)) + ch_12))) (0 : Int)) dy_17 (wi64 (dx_18 + (1 : Int)))))
                        (
                        (g_lodgeref3_pool_1 N n avg_0 args_1 a_8 c_11 ch_12 x_13 y_14 (wi64 (s_15 + (List.getD ((a_8).1).2 (Int.toNat (wi64 ((wi64 ((wi64 ((wi64 ((wi64 ((wi64 ((wi64 (y_14 * (List.getD args_1 1 (0 : Int)))) + dy_17)) * (List.getD (((a_8).1).1).1 1 (0 : Int)))) + (wi64 (x_13 * (List.getD args_1 1 (0 : Int)))))) + dx_18)) * c_11)) + ch_12))) (0 : Int)))) best_16 dy_17 (wi64 (dx_18 + (1 : Int)))))))
                    (
                    cond (decide (best_16 < (List.getD ((a_8).1).2 (Int.toNat (wi64 ((wi64 ((wi64 ((wi64 ((wi64 ((wi64 ((wi64 (y_14 * (List.getD args_1 1 (0 : Int)))) + dy_17)) * (List.getD (((a_8).1).1).1 1 (0 : Int)))) + (wi64 (x_13 * (List.getD args_1 1 (0 : Int)))))) + dx_18)) * c_11)) + ch_12))) (0 : Int))))
                      (
                      (g_lodgeref3_pool_1 N n avg_0 args_1 a_8 c_11 ch_12 x_13 y_14 (wi64 (s_15 + (List.getD ((a_8).1).2 (Int.toNat (wi64 ((wi64 ((wi64 ((wi64 ((wi64 ((wi64 ((wi64 (y_14 * (List.getD args_1 1 (0 : Int)))) + dy_17)) * (List.getD (((a_8).1).1).1 1 (0 : Int)))) + (wi64 (x_13 * (List.getD args_1 1 (0 : Int)))))) + dx_18)) * c_11)) + ch_12))) (0 : Int)))) (List.getD ((a_8).1).2 (Int.toNat (wi64 ((wi64 ((wi64 ((wi64 ((wi64 ((wi64 ((wi64 (y_14 * (List.getD args_1 1 (0 : Int)))) + dy_17)) * (List.getD (((a_8).1).1).1 1 (0 : Int)))) + (wi64 (x_13 * (List.getD args_1 1 (0 : Int)))))) + dx_18)) * c_11)) + ch_12))) (0 : Int)) dy_17 (wi64 (dx_18 + (1 : Int)))))
                      (
                      (g_lodgeref3_pool_1 N n avg_0 args_1 a_8 c_11 ch_12 x_13 y_14 (wi64 (s_15 + (List.getD ((a_8).1).2 (Int.toNat (wi64 ((wi64 ((wi64 ((wi64 ((wi64 ((wi64 ((wi64 (y_14 * (List.getD args_1 1 (0 : Int)))) + dy_17)) * (List.getD (((a_8).1).1).1 1 (0 : Int)))) + (wi64 (x_13 * (List.getD args_1 1 (0 : Int)))))) + dx_18)) * c_11)) + ch_12))) (0 : Int)))) best_16 dy_17 (wi64 (dx_18 + (1 : Int)))))))
                  (
                  none))
                (
                none))
              (
              none))
            (
            none))
          (
          none))
        (
        some (avg_0, (args_1, (a_8, (c_11, (ch_12, (x_13, (y_14, (s_15, (best_16, (dy_17, ()))))))))))))
      (
      none)

abbrev h_lodgeref3_pool_0 : List Slot := [.data .bool, .data (.sl (.int .i64)), .dead, .dead, .dead, .dead, .dead, .dead, .box [.d (.st (.pair (.st (.pair (.sl (.int .i64)) .bool)) (.sl (.int .i64))))], .dead, .dead, .data (.int .i64), .data (.int .i64), .data (.int .i64), .data (.int .i64), .data (.int .i64), .data (.int .i64), .data (.int .i64), .dead, .dead, .dead, .dead, .dead, .dead, .dead, .dead, .dead, .dead, .dead, .dead, .dead, .dead, .dead, .dead, .dead, .dead, .dead, .dead, .dead, .dead, .dead, .dead, .dead, .dead, .dead, .dead, .dead, .dead, .dead, .dead, .dead, .dead, .dead, .dead, .dead, .dead, .dead, .dead, .dead, .dead, .dead, .dead, .dead, .dead, .dead, .dead, .dead, .dead, .dead, .dead, .dead, .dead, .dead, .dead, .dead, .dead, .dead, .dead, .dead, .dead, .dead, .dead, .dead, .dead, .dead, .dead, .dead, .dead, .dead, .dead, .dead, .dead, .dead, .dead, .dead, .dead, .dead, .dead, .dead, .dead, .dead, .dead, .dead, .dead, .dead, .dead, .dead, .dead, .dead, .dead, .dead, .dead, .dead, .dead, .dead, .dead, .dead, .dead]
abbrev e_lodgeref3_pool_0 : List (AX × List Slot) := [(AX.exit 0, [.data .bool, .data (.sl (.int .i64)), .dead, .dead, .dead, .dead, .dead, .dead, .dead, .dead, .dead, .dead, .dead, .dead, .dead, .data (.int .i64), .data (.int .i64), .dead, .dead, .dead, .dead, .dead, .dead, .dead, .dead, .dead, .dead, .dead, .dead, .dead, .dead, .dead, .dead, .dead, .dead, .dead, .dead, .dead, .dead, .dead, .dead, .dead, .dead, .dead, .dead, .dead, .dead, .dead, .dead, .dead, .dead, .dead, .dead, .dead, .dead, .dead, .dead, .dead, .dead, .dead, .dead, .dead, .dead, .dead, .dead, .dead, .dead, .dead, .dead, .dead, .dead, .dead, .dead, .dead, .dead, .dead, .dead, .dead, .dead, .dead, .dead, .dead, .dead, .dead, .dead, .dead, .dead, .dead, .dead, .dead, .dead, .dead, .dead, .dead, .dead, .dead, .dead, .dead, .dead, .dead, .dead, .dead, .dead, .dead, .dead, .dead, .dead, .dead, .dead, .dead, .dead, .dead, .dead, .dead, .dead, .dead, .dead, .dead])]
def g_lodgeref3_pool_0 (N : Nat) : Nat → Bool → List Int → (((List Int × Bool) × List Int) × Unit) → Int → Int → Int → Int → Int → Int → Int → Option (Bool × (List Int × (Int × (Int × Unit))))
  | 0, _, _, _, _, _, _, _, _, _, _ => none
  | n + 1, avg_0, args_1, a_8, c_11, ch_12, x_13, y_14, s_15, best_16, dy_17 =>
    cond (decide (0 < (List.length args_1)))
      (
      cond (decide (dy_17 < (List.getD args_1 0 (0 : Int))))
        (
        Option.bind (g_lodgeref3_pool_1 N N avg_0 args_1 a_8 c_11 ch_12 x_13 y_14 s_15 best_16 dy_17 (0 : Int)) fun y1 =>
        (g_lodgeref3_pool_0 N n (y1).1 ((y1).2).1 (((y1).2).2).1 ((((y1).2).2).2).1 (((((y1).2).2).2).2).1 ((((((y1).2).2).2).2).2).1 (((((((y1).2).2).2).2).2).2).1 ((((((((y1).2).2).2).2).2).2).2).1 (((((((((y1).2).2).2).2).2).2).2).2).1 (wi64 (((((((((((y1).2).2).2).2).2).2).2).2).2).1 + (1 : Int)))))
        (
        some (avg_0, (args_1, (s_15, (best_16, ()))))))
      (
      none)

def F_lodgeref3_pool (N : Nat) (avg_0 : Bool) (args_1 : List Int) (i_2 : Int) (a_3 : ((List Int × Bool) × List Int)) (d_4 : (List Int × Bool)) : Option (Int × Unit) :=
  cond (decide (2 < (List.length (d_4).1)))
    (
    cond (decide (@Ne Int (List.getD (d_4).1 2 (0 : Int)) (0 : Int)))
      (
      cond (decide (@Ne Int (List.getD (d_4).1 2 (0 : Int)) (0 : Int)))
        (
        cond (decide (1 < (List.length (d_4).1)))
          (
          cond (decide (@Ne Int (List.getD (d_4).1 1 (0 : Int)) (0 : Int)))
            (
            cond (decide (@Ne Int (List.getD (d_4).1 2 (0 : Int)) (0 : Int)))
              (
              cond (decide (1 < (List.length (d_4).1)))
                (
                cond (decide (@Ne Int (List.getD (d_4).1 1 (0 : Int)) (0 : Int)))
                  (
                  Option.bind (g_lodgeref3_pool_0 N N avg_0 args_1 (a_3, ()) (List.getD (d_4).1 2 (0 : Int)) (Int.tmod i_2 (List.getD (d_4).1 2 (0 : Int))) (Int.tmod (wi64 (Int.tdiv i_2 (List.getD (d_4).1 2 (0 : Int)))) (List.getD (d_4).1 1 (0 : Int))) (wi64 (Int.tdiv (wi64 (Int.tdiv i_2 (List.getD (d_4).1 2 (0 : Int)))) (List.getD (d_4).1 1 (0 : Int)))) (0 : Int) (0 : Int) (0 : Int)) fun y0 =>
                  cond (y0).1
                    (
                    cond (decide (0 < (List.length ((y0).2).1)))
                      (
                      cond (decide (0 < (List.length ((y0).2).1)))
                        (
                        Option.bind (F_lodgeref3_div N (wi64 ((wi64 ((2 : Int) * (((y0).2).2).1)) + (wi64 ((List.getD ((y0).2).1 0 (0 : Int)) * (List.getD ((y0).2).1 0 (0 : Int)))))) (wi64 ((2 : Int) * (wi64 ((List.getD ((y0).2).1 0 (0 : Int)) * (List.getD ((y0).2).1 0 (0 : Int))))))) fun y1 =>
                        some y1)
                        (
                        none))
                      (
                      none))
                    (
                    some (((y0).2).2).2))
                  (
                  none))
                (
                none))
              (
              none))
            (
            none))
          (
          none))
        (
        none))
      (
      none))
    (
    none)

abbrev c_lodgeref3_pool (N : Nat) : CallSpec := ⟨86, ps_lodgeref3_pool, rs_lodgeref3_pool, fun x => F_lodgeref3_pool N x.1 x.2.1 x.2.2.1 x.2.2.2.1 x.2.2.2.2.1⟩
abbrev l_lodgeref3_pool_1 (N : Nat) : LoopSpec := ⟨1, h_lodgeref3_pool_1, e_lodgeref3_pool_1, fun x => g_lodgeref3_pool_1 N N x.1 x.2.1 x.2.2.1 x.2.2.2.1 x.2.2.2.2.1 x.2.2.2.2.2.1 x.2.2.2.2.2.2.1 x.2.2.2.2.2.2.2.1 x.2.2.2.2.2.2.2.2.1 x.2.2.2.2.2.2.2.2.2.1 x.2.2.2.2.2.2.2.2.2.2.1⟩
abbrev l_lodgeref3_pool_0 (N : Nat) : LoopSpec := ⟨0, h_lodgeref3_pool_0, e_lodgeref3_pool_0, fun x => g_lodgeref3_pool_0 N N x.1 x.2.1 x.2.2.1 x.2.2.2.1 x.2.2.2.2.1 x.2.2.2.2.2.1 x.2.2.2.2.2.2.1 x.2.2.2.2.2.2.2.1 x.2.2.2.2.2.2.2.2.1 x.2.2.2.2.2.2.2.2.2.1⟩

theorem cs_lodgeref3_pool_ok (S : Nat → Addr) (N : Nat) : CallsOK Go.Proofs.Tryd.prog E S (cs_lodgeref3_pool N) :=
  .cons (F_lodgeref3_div_ok S N) (.nil)
noncomputable abbrev b_lodgeref3_pool_1 : Code := (loopsOf b_lodgeref3_pool).getD 1 .skip
theorem g_lodgeref3_pool_1_ok (S : Nat → Addr) (N : Nat) : ∀ n x y, (fun (x : Val (slotsTy h_lodgeref3_pool_1)) => g_lodgeref3_pool_1 N n x.1 x.2.1 x.2.2.1 x.2.2.2.1 x.2.2.2.2.1 x.2.2.2.2.2.1 x.2.2.2.2.2.2.1 x.2.2.2.2.2.2.2.1 x.2.2.2.2.2.2.2.2.1 x.2.2.2.2.2.2.2.2.2.1 x.2.2.2.2.2.2.2.2.2.2.1) x = some y → LoopCon Go.Proofs.Tryd.prog E S b_lodgeref3_pool_1 (encSlots h_lodgeref3_pool_1 x) (encEx e_lodgeref3_pool_1 y).1 (encEx e_lodgeref3_pool_1 y).2 :=
  loop_spec E_ok mixed (cs_lodgeref3_pool_ok S N) (all := loopsOf b_lodgeref3_pool) (ls := []) (.nil) (i := 1) (by kernel_rfl) (inner_of (by kernel_rfl)) (head := h_lodgeref3_pool_1) (ex := e_lodgeref3_pool_1) (fun n (x : Val (slotsTy h_lodgeref3_pool_1)) => g_lodgeref3_pool_1 N n x.1 x.2.1 x.2.2.1 x.2.2.2.1 x.2.2.2.2.1 x.2.2.2.2.2.1 x.2.2.2.2.2.2.1 x.2.2.2.2.2.2.2.1 x.2.2.2.2.2.2.2.2.1 x.2.2.2.2.2.2.2.2.2.1 x.2.2.2.2.2.2.2.2.2.2.1) (fun _ => rfl) (fun n x => by kernel_rfl)
noncomputable abbrev b_lodgeref3_pool_0 : Code := (loopsOf b_lodgeref3_pool).getD 0 .skip
theorem g_lodgeref3_pool_0_ok (S : Nat → Addr) (N : Nat) : ∀ n x y, (fun (x : Val (slotsTy h_lodgeref3_pool_0)) => g_lodgeref3_pool_0 N n x.1 x.2.1 x.2.2.1 x.2.2.2.1 x.2.2.2.2.1 x.2.2.2.2.2.1 x.2.2.2.2.2.2.1 x.2.2.2.2.2.2.2.1 x.2.2.2.2.2.2.2.2.1 x.2.2.2.2.2.2.2.2.2.1) x = some y → LoopCon Go.Proofs.Tryd.prog E S b_lodgeref3_pool_0 (encSlots h_lodgeref3_pool_0 x) (encEx e_lodgeref3_pool_0 y).1 (encEx e_lodgeref3_pool_0 y).2 :=
  loop_spec E_ok mixed (cs_lodgeref3_pool_ok S N) (all := loopsOf b_lodgeref3_pool) (ls := [l_lodgeref3_pool_1 N]) (.cons (by kernel_rfl) (g_lodgeref3_pool_1_ok S N N) (.nil)) (i := 0) (by kernel_rfl) (inner_of (by kernel_rfl)) (head := h_lodgeref3_pool_0) (ex := e_lodgeref3_pool_0) (fun n (x : Val (slotsTy h_lodgeref3_pool_0)) => g_lodgeref3_pool_0 N n x.1 x.2.1 x.2.2.1 x.2.2.2.1 x.2.2.2.2.1 x.2.2.2.2.2.1 x.2.2.2.2.2.2.1 x.2.2.2.2.2.2.2.1 x.2.2.2.2.2.2.2.2.1 x.2.2.2.2.2.2.2.2.2.1) (fun _ => rfl) (fun n x => by kernel_rfl)
theorem F_lodgeref3_pool_ok (S : Nat → Addr) (N : Nat) : ∀ x y, (c_lodgeref3_pool N).g x = some y → FCon Go.Proofs.Tryd.prog E S 86 ps_lodgeref3_pool rs_lodgeref3_pool x y := by
  intro x y h
  exact fun_spec E_ok mixed (cs_lodgeref3_pool_ok S N) (f := 86) (fi := ⟨b_lodgeref3_pool, 118, Go.Proofs.Tryd.f86.results.toList⟩) (by kernel_rfl) (ls := [l_lodgeref3_pool_1 N, l_lodgeref3_pool_0 N]) (.cons (by kernel_rfl) (g_lodgeref3_pool_1_ok S N N) (.cons (by kernel_rfl) (g_lodgeref3_pool_0_ok S N N) (.nil))) (by kernel_rfl) (ps := ps_lodgeref3_pool) (rs := rs_lodgeref3_pool) (Eq.trans (b := F_lodgeref3_pool N x.1 x.2.1 x.2.2.1 x.2.2.2.1 x.2.2.2.2.1) (by kernel_rfl) h)

/-! lodge/lodgeref3.softmax -/

abbrev ps_lodgeref3_softmax : List Ty := [(.int .i64), (.st (.pair (.st (.pair (.sl (.int .i64)) .bool)) (.sl (.int .i64)))), (.st (.pair (.st (.pair (.sl (.int .i64)) .bool)) (.sl (.int .i64))))]
abbrev rs_lodgeref3_softmax : List Slot := [.data (.int .i64)]
abbrev cs_lodgeref3_softmax (N : Nat) : List CallSpec := []
noncomputable abbrev b_lodgeref3_softmax : Code := (Go.Proofs.Tryd.f87.body).getD .skip

abbrev h_lodgeref3_softmax_0 : List Slot := [.data (.int .i64), .dead, .dead, .dead, .box [.d (.st (.pair (.st (.pair (.sl (.int .i64)) .bool)) (.sl (.int .i64))))], .box [.d (.st (.pair (.st (.pair (.sl (.int .i64)) .bool)) (.sl (.int .i64))))], .dead, .data (.int .i64), .data (.int .i64), .data (.int .i64), .data (.int .i64), .dead, .dead, .dead, .dead, .dead, .dead, .dead, .dead, .dead, .dead, .dead, .dead, .dead, .dead, .dead, .dead, .dead, .dead, .dead, .dead, .dead, .dead, .dead, .dead, .dead, .dead, .dead, .dead, .dead, .dead, .dead, .dead, .dead, .dead, .dead, .dead, .dead, .dead, .dead, .dead, .dead, .dead, .dead, .dead, .dead, .dead, .dead, .dead, .dead, .dead, .dead, .dead, .dead, .dead, .dead, .dead, .dead, .dead, .dead, .dead, .dead, .dead, .dead, .dead, .dead, .dead, .dead, .dead, .dead, .dead, .dead, .dead, .dead, .dead, .dead, .dead, .dead, .dead, .dead, .dead]
abbrev e_lodgeref3_softmax_0 : List (AX × List Slot) := [(AX.exit 0, [.data (.int .i64), .dead, .dead, .dead, .box [.d (.st (.pair (.st (.pair (.sl (.int .i64)) .bool)) (.sl (.int .i64))))], .box [.d (.st (.pair (.st (.pair (.sl (.int .i64)) .bool)) (.sl (.int .i64))))], .dead, .data (.int .i64), .data (.int .i64), .data (.int .i64), .dead, .dead, .dead, .dead, .dead, .dead, .dead, .dead, .dead, .dead, .dead, .dead, .dead, .dead, .dead, .dead, .dead, .dead, .dead, .dead, .dead, .dead, .dead, .dead, .dead, .dead, .dead, .dead, .dead, .dead, .dead, .dead, .dead, .dead, .dead, .dead, .dead, .dead, .dead, .dead, .dead, .dead, .dead, .dead, .dead, .dead, .dead, .dead, .dead, .dead, .dead, .dead, .dead, .dead, .dead, .dead, .dead, .dead, .dead, .dead, .dead, .dead, .dead, .dead, .dead, .dead, .dead, .dead, .dead, .dead, .dead, .dead, .dead, .dead, .dead, .dead, .dead, .dead, .dead, .dead, .dead])]
def g_lodgeref3_softmax_0 (N : Nat) : Nat → Int → (((List Int × Bool) × List Int) × Unit) → (((List Int × Bool) × List Int) × Unit) → Int → Int → Int → Int → Option (Int × ((((List Int × Bool) × List Int) × Unit) × ((((List Int × Bool) × List Int) × Unit) × (Int × (Int × (Int × Unit))))))
  | 0, _, _, _, _, _, _, _ => none
  | n + 1, i_0, a_4, table_5, n_7, row_8, m_9, j_10 =>
    cond (decide (j_10 < n_7))
      (
      cond (decide ((0 : Int) ≤ (wi64 (row_8 + j_10))))
        (
        cond (decide ((Int.toNat (wi64 (row_8 + j_10))) < (List.length ((a_4).1).2)))
          (
          (g_lodgeref3_softmax_0 N n i_0 a_4 table_5 n_7 row_8 (Go.Eng.imax m_9 (List.getD ((a_4).1).2 (Int.toNat (wi64 (row_8 + j_10))) (0 : Int))) (wi64 (j_10 + (1 : Int)))))
          (
          none))
        (
        none))
      (
      some (i_0, (a_4, (table_5, (n_7, (row_8, (m_9, ())))))))

abbrev h_lodgeref3_softmax_1 : List Slot := [.data (.int .i64), .dead, .dead, .dead, .box [.d (.st (.pair (.st (.pair (.sl (.int .i64)) .bool)) (.sl (.int .i64))))], .box [.d (.st (.pair (.st (.pair (.sl (.int .i64)) .bool)) (.sl (.int .i64))))], .dead, .data (.int .i64), .data (.int .i64), .data (.int .i64), .dead, .data (.int .i64), .data (.int .i64), .dead, .dead, .dead, .dead, .dead, .dead, .dead, .dead, .dead, .dead, .dead, .dead, .dead, .dead, .dead, .dead, .dead, .dead, .dead, .dead, .dead, .dead, .dead, .dead, .dead, .dead, .dead, .dead, .dead, .dead, .dead, .dead, .dead, .dead, .dead, .dead, .dead, .dead, .dead, .dead, .dead, .dead, .dead, .dead, .dead, .dead, .dead, .dead, .dead, .dead, .dead, .dead, .dead, .dead, .dead, .dead, .dead, .dead, .dead, .dead, .dead, .dead, .dead, .dead, .dead, .dead, .dead, .dead, .dead, .dead, .dead, .dead, .dead, .dead, .dead, .dead, .dead, .dead]
abbrev e_lodgeref3_softmax_1 : List (AX × List Slot) := [(AX.exit 2, [.data (.int .i64), .dead, .dead, .dead, .box [.d (.st (.pair (.st (.pair (.sl (.int .i64)) .bool)) (.sl (.int .i64))))], .box [.d (.st (.pair (.st (.pair (.sl (.int .i64)) .bool)) (.sl (.int .i64))))], .dead, .dead, .dead, .data (.int .i64), .dead, .data (.int .i64), .dead, .dead, .dead, .dead, .dead, .dead, .dead, .dead, .dead, .dead, .dead, .dead, .dead, .dead, .dead, .dead, .dead, .dead, .dead, .dead, .dead, .dead, .dead, .dead, .dead, .dead, .dead, .dead, .dead, .dead, .dead, .dead, .dead, .dead, .dead, .dead, .dead, .dead, .dead, .dead, .dead, .dead, .dead, .dead, .dead, .dead, .dead, .dead, .dead, .dead, .dead, .dead, .dead, .dead, .dead, .dead, .dead, .dead, .dead, .dead, .dead, .dead, .dead, .dead, .dead, .dead, .dead, .dead, .dead, .dead, .dead, .dead, .dead, .dead, .dead, .dead, .dead, .dead, .dead])]
def g_lodgeref3_softmax_1 (N : Nat) : Nat → Int → (((List Int × Bool) × List Int) × Unit) → (((List Int × Bool) × List Int) × Unit) → Int → Int → Int → Int → Int → Option (Int × ((((List Int × Bool) × List Int) × Unit) × ((((List Int × Bool) × List Int) × Unit) × (Int × (Int × Unit)))))
  | 0, _, _, _, _, _, _, _, _ => none
  | n + 1, i_0, a_4, table_5, n_7, row_8, m_9, s_11, j_12 =>
    cond (decide (j_12 < n_7))
      (
      cond (decide ((0 : Int) ≤ (wi64 (row_8 + j_12))))
        (
        cond (decide ((Int.toNat (wi64 (row_8 + j_12))) < (List.length ((a_4).1).2)))
          (
          cond (decide ((0 : Int) ≤ (wi64 (m_9 - (List.getD ((a_4).1).2 (Int.toNat (wi64 (row_8 + j_12))) (0 : Int))))))
            (
            cond (decide ((Int.toNat (wi64 (m_9 - (List.getD ((a_4).1).2 (Int.toNat (wi64 (row_8 + j_12))) (0 : Int))))) < (List.length ((table_5).1).2)))
              (
              (g_lodgeref3_softmax_1 N n i_0 a_4 table_5 n_7 row_8 m_9 (wi64 (s_11 + (Go.Eng.imax (0 : Int) (List.getD ((table_5).1).2 (Int.toNat (wi64 (m_9 - (List.getD ((a_4).1).2 (Int.toNat (wi64 (row_8 + j_12))) (0 : Int))))) (0 : Int))))) (wi64 (j_12 + (1 : Int)))))
              (
              none))
            (
            none))
          (
          none))
        (
        none))
      (
      some (i_0, (a_4, (table_5, (m_9, (s_11, ()))))))

def F_lodgeref3_softmax (N : Nat) (i_0 : Int) (a_1 : ((List Int × Bool) × List Int)) (table_2 : ((List Int × Bool) × List Int)) : Option (Int × Unit) :=
  cond (decide ((0 : Int) ≤ (wi64 ((Nat.cast (List.length ((a_1).1).1) : Int) - (1 : Int)))))
    (
    cond (decide ((Int.toNat (wi64 ((Nat.cast (List.length ((a_1).1).1) : Int) - (1 : Int)))) < (List.length ((a_1).1).1)))
      (
      cond (decide (@Ne Int (List.getD ((a_1).1).1 (Int.toNat (wi64 ((Nat.cast (List.length ((a_1).1).1) : Int) - (1 : Int)))) (0 : Int)) (0 : Int)))
        (
        cond (decide ((0 : Int) ≤ (wi64 ((wi64 (Int.tdiv i_0 (List.getD ((a_1).1).1 (Int.toNat (wi64 ((Nat.cast (List.length ((a_1).1).1) : Int) - (1 : Int)))) (0 : Int)))) * (List.getD ((a_1).1).1 (Int.toNat (wi64 ((Nat.cast (List.length ((a_1).1).1) : Int) - (1 : Int)))) (0 : Int))))))
          (
          cond (decide ((Int.toNat (wi64 ((wi64 (Int.tdiv i_0 (List.getD ((a_1).1).1 (Int.toNat (wi64 ((Nat.cast (List.length ((a_1).1).1) : Int) - (1 : Int)))) (0 : Int)))) * (List.getD ((a_1).1).1 (Int.toNat (wi64 ((Nat.cast (List.length ((a_1).1).1) : Int) - (1 : Int)))) (0 : Int))))) < (List.length (a_1).2)))
            (
            Option.bind (g_lodgeref3_softmax_0 N N i_0 (a_1, ()) (table_2, ()) (List.getD ((a_1).1).1 (Int.toNat (wi64 ((Nat.cast (List.length ((a_1).1).1) : Int) - (1 : Int)))) (0 : Int)) (wi64 ((wi64 (Int.tdiv i_0 (List.getD ((a_1).1).1 (Int.toNat (wi64 ((Nat.cast (List.length ((a_1).1).1) : Int) - (1 : Int)))) (0 : Int)))) * (List.getD ((a_1).1).1 (Int.toNat (wi64 ((Nat.cast (List.length ((a_1).1).1) : Int) - (1 : Int)))) (0 : Int)))) (List.getD (a_1).2 (Int.toNat (wi64 ((wi64 (Int.tdiv i_0 (List.getD ((a_1).1).1 (Int.toNat (wi64 ((Nat.cast (List.length ((a_1).1).1) : Int) - (1 : Int)))) (0 : Int)))) * (List.getD ((a_1).1).1 (Int.toNat (wi64 ((Nat.cast (List.length ((a_1).1).1) : Int) - (1 : Int)))) (0 : Int))))) (0 : Int)) (0 : Int)) fun y0 =>
            Option.bind (g_lodgeref3_softmax_1 N N (y0).1 ((y0).2).1 (((y0).2).2).1 ((((y0).2).2).2).1 (((((y0).2).2).2).2).1 ((((((y0).2).2).2).2).2).1 (0 : Int) (0 : Int)) fun y1 =>
            cond (decide ((((((y1).2).2).2).2).1 = (0 : Int)))
              (
              some ((-(128 : Int)), ()))
              (
              cond (decide ((0 : Int) ≤ (y1).1))
                (
                cond (decide ((Int.toNat (y1).1) < (List.length ((((y1).2).1).1).2)))
                  (
                  cond (decide ((0 : Int) ≤ (wi64 (((((y1).2).2).2).1 - (List.getD ((((y1).2).1).1).2 (Int.toNat (y1).1) (0 : Int))))))
                    (
                    cond (decide ((Int.toNat (wi64 (((((y1).2).2).2).1 - (List.getD ((((y1).2).1).1).2 (Int.toNat (y1).1) (0 : Int))))) < (List.length (((((y1).2).2).1).1).2)))
                      (
                      cond (decide (@Ne Int (((((y1).2).2).2).2).1 (0 : Int)))
                        (
                        some ((wi64 ((wi64 (Int.tdiv (wi64 ((wi64 ((255 : Int) * (Go.Eng.imax (0 : Int) (List.getD (((((y1).2).2).1).1).2 (Int.toNat (wi64 (((((y1).2).2).2).1 - (List.getD ((((y1).2).1).1).2 (Int.toNat (y1).1) (0 : Int))))) (0 : Int))))) + (wi64 (Int.tdiv (((((y1).2).2).2).2).1 (2 : Int))))) (((((y1).2).2).2).2).1)) - (128 : Int))), ()))
                        (
                        none))
                      (
                      none))
                    (
                    none))
                  (
                  none))
                (
                none)))
            (
            none))
          (
          none))
        (
        none))
      (
      none))
    (
    none)

abbrev c_lodgeref3_softmax (N : Nat) : CallSpec := ⟨87, ps_lodgeref3_softmax, rs_lodgeref3_softmax, fun x => F_lodgeref3_softmax N x.1 x.2.1 x.2.2.1⟩
abbrev l_lodgeref3_softmax_1 (N : Nat) : LoopSpec := ⟨1, h_lodgeref3_softmax_1, e_lodgeref3_softmax_1, fun x => g_lodgeref3_softmax_1 N N x.1 x.2.1 x.2.2.1 x.2.2.2.1 x.2.2.2.2.1 x.2.2.2.2.2.1 x.2.2.2.2.2.2.1 x.2.2.2.2.2.2.2.1⟩
abbrev l_lodgeref3_softmax_0 (N : Nat) : LoopSpec := ⟨0, h_lodgeref3_softmax_0, e_lodgeref3_softmax_0, fun x => g_lodgeref3_softmax_0 N N x.1 x.2.1 x.2.2.1 x.2.2.2.1 x.2.2.2.2.1 x.2.2.2.2.2.1 x.2.2.2.2.2.2.1⟩

theorem cs_lodgeref3_softmax_ok (S : Nat → Addr) (N : Nat) : CallsOK Go.Proofs.Tryd.prog E S (cs_lodgeref3_softmax N) :=
  .nil
noncomputable abbrev b_lodgeref3_softmax_1 : Code := (loopsOf b_lodgeref3_softmax).getD 1 .skip
theorem g_lodgeref3_softmax_1_ok (S : Nat → Addr) (N : Nat) : ∀ n x y, (fun (x : Val (slotsTy h_lodgeref3_softmax_1)) => g_lodgeref3_softmax_1 N n x.1 x.2.1 x.2.2.1 x.2.2.2.1 x.2.2.2.2.1 x.2.2.2.2.2.1 x.2.2.2.2.2.2.1 x.2.2.2.2.2.2.2.1) x = some y → LoopCon Go.Proofs.Tryd.prog E S b_lodgeref3_softmax_1 (encSlots h_lodgeref3_softmax_1 x) (encEx e_lodgeref3_softmax_1 y).1 (encEx e_lodgeref3_softmax_1 y).2 :=
  loop_spec E_ok mixed (cs_lodgeref3_softmax_ok S N) (all := loopsOf b_lodgeref3_softmax) (ls := []) (.nil) (i := 1) (by kernel_rfl) (inner_of (by kernel_rfl)) (head := h_lodgeref3_softmax_1) (ex := e_lodgeref3_softmax_1) (fun n (x : Val (slotsTy h_lodgeref3_softmax_1)) => g_lodgeref3_softmax_1 N n x.1 x.2.1 x.2.2.1 x.2.2.2.1 x.2.2.2.2.1 x.2.2.2.2.2.1 x.2.2.2.2.2.2.1 x.2.2.2.2.2.2.2.1) (fun _ => rfl) (fun n x => by kernel_rfl)
noncomputable abbrev b_lodgeref3_softmax_0 : Code := (loopsOf b_lodgeref3_softmax).getD 0 .skip
theorem g_lodgeref3_softmax_0_ok (S : Nat → Addr) (N : Nat) : ∀ n x y, (fun (x : Val (slotsTy h_lodgeref3_softmax_0)) => g_lodgeref3_softmax_0 N n x.1 x.2.1 x.2.2.1 x.2.2.2.1 x.2.2.2.2.1 x.2.2.2.2.2.1 x.2.2.2.2.2.2.1) x = some y → LoopCon Go.Proofs.Tryd.prog E S b_lodgeref3_softmax_0 (encSlots h_lodgeref3_softmax_0 x) (encEx e_lodgeref3_softmax_0 y).1 (encEx e_lodgeref3_softmax_0 y).2 :=
  loop_spec E_ok mixed (cs_lodgeref3_softmax_ok S N) (all := loopsOf b_lodgeref3_softmax) (ls := []) (.nil) (i := 0) (by kernel_rfl) (inner_of (by kernel_rfl)) (head := h_lodgeref3_softmax_0) (ex := e_lodgeref3_softmax_0) (fun n (x : Val (slotsTy h_lodgeref3_softmax_0)) => g_lodgeref3_softmax_0 N n x.1 x.2.1 x.2.2.1 x.2.2.2.1 x.2.2.2.2.1 x.2.2.2.2.2.1 x.2.2.2.2.2.2.1) (fun _ => rfl) (fun n x => by kernel_rfl)
theorem F_lodgeref3_softmax_ok (S : Nat → Addr) (N : Nat) : ∀ x y, (c_lodgeref3_softmax N).g x = some y → FCon Go.Proofs.Tryd.prog E S 87 ps_lodgeref3_softmax rs_lodgeref3_softmax x y := by
  intro x y h
  exact fun_spec E_ok mixed (cs_lodgeref3_softmax_ok S N) (f := 87) (fi := ⟨b_lodgeref3_softmax, 91, Go.Proofs.Tryd.f87.results.toList⟩) (by kernel_rfl) (ls := [l_lodgeref3_softmax_1 N, l_lodgeref3_softmax_0 N]) (.cons (by kernel_rfl) (g_lodgeref3_softmax_1_ok S N N) (.cons (by kernel_rfl) (g_lodgeref3_softmax_0_ok S N N) (.nil))) (by kernel_rfl) (ps := ps_lodgeref3_softmax) (rs := rs_lodgeref3_softmax) (Eq.trans (b := F_lodgeref3_softmax N x.1 x.2.1 x.2.2.1) (by kernel_rfl) h)


end Go.Proofs.YtohkmbpdjigjdaaDoor.Lg
