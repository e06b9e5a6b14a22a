/-
  The functions of the seat's program, as plain functions.
-/
import Derived.Test.YtnblnlanicpagaaDoorLgOpAFe
namespace Go.Proofs.YtnblnlanicpagaaDoor.Lg
open Go Go.Eng Go.Proofs
set_option maxRecDepth 100000

/-! lodge/lodgeref3.Elems -/

abbrev ps_lodgeref3_Elems : List Ty := [(.sl (.int .i64))]
abbrev rs_lodgeref3_Elems : List Slot := [.data (.int .i64)]
abbrev cs_lodgeref3_Elems (N : Nat) : List CallSpec := [c_lodgeref3_ValidDesc N]
noncomputable abbrev b_lodgeref3_Elems : Code := (Go.Proofs.Tryd.f49.body).getD .skip

abbrev h_lodgeref3_Elems_0 : List Slot := [.data (.sl (.int .i64)), .dead, .dead, .data (.int .i64), .data (.int .i64), .dead, .dead, .dead, .dead, .dead, .dead, .dead, .dead, .dead, .dead, .dead, .dead, .dead, .dead, .dead, .dead, .dead]
abbrev e_lodgeref3_Elems_0 : List (AX × List Slot) := [(AX.exit 0, [.dead, .dead, .dead, .data (.int .i64), .dead, .dead, .dead, .dead, .dead, .dead, .dead, .dead, .dead, .dead, .dead, .dead, .dead, .dead, .dead, .dead, .dead, .dead])]
def g_lodgeref3_Elems_0 (N : Nat) : Nat → List Int → Int → Int → Option (Int × Unit)
  | 0, _, _, _ => none
  | n + 1, shape_0, n_3, i_4 =>
    cond (decide (i_4 < (Nat.cast (List.length shape_0) : Int)))
      (
      cond (decide ((0 : Int) ≤ i_4))
        (
        cond (decide ((Int.toNat i_4) < (List.length shape_0)))
          (
          (g_lodgeref3_Elems_0 N n shape_0 (wi64 (n_3 * (List.getD shape_0 (Int.toNat i_4) (0 : Int)))) (wi64 (i_4 + (1 : Int)))))
          (
          none))
        (
        none))
      (
      some (n_3, ()))

def F_lodgeref3_Elems (N : Nat) (shape_0 : List Int) : Option (Int × Unit) :=
  Option.bind (F_lodgeref3_ValidDesc N (shape_0, false)) fun y0 =>
  cond (decide (@Ne Int (y0).1 (0 : Int)))
    (
    some ((0 : Int), ()))
    (
    Option.bind (g_lodgeref3_Elems_0 N N shape_0 (1 : Int) (0 : Int)) fun y1 =>
    some y1)

abbrev c_lodgeref3_Elems (N : Nat) : CallSpec := ⟨49, ps_lodgeref3_Elems, rs_lodgeref3_Elems, fun x => F_lodgeref3_Elems N x.1⟩
abbrev l_lodgeref3_Elems_0 (N : Nat) : LoopSpec := ⟨0, h_lodgeref3_Elems_0, e_lodgeref3_Elems_0, fun x => g_lodgeref3_Elems_0 N N x.1 x.2.1 x.2.2.1⟩

theorem cs_lodgeref3_Elems_ok (S : Nat → Addr) (N : Nat) : CallsOK Go.Proofs.Tryd.prog E S (cs_lodgeref3_Elems N) :=
  .cons (F_lodgeref3_ValidDesc_ok S N) (.nil)
noncomputable abbrev b_lodgeref3_Elems_0 : Code := (loopsOf b_lodgeref3_Elems).getD 0 .skip
theorem g_lodgeref3_Elems_0_ok (S : Nat → Addr) (N : Nat) : ∀ n x y, (fun (x : Val (slotsTy h_lodgeref3_Elems_0)) => g_lodgeref3_Elems_0 N n x.1 x.2.1 x.2.2.1) x = some y → LoopCon Go.Proofs.Tryd.prog E S b_lodgeref3_Elems_0 (encSlots h_lodgeref3_Elems_0 x) (encEx e_lodgeref3_Elems_0 y).1 (encEx e_lodgeref3_Elems_0 y).2 :=
  loop_spec E_ok mixed (cs_lodgeref3_Elems_ok S N) (all := loopsOf b_lodgeref3_Elems) (ls := []) (.nil) (i := 0) (by kernel_rfl) (inner_of (by kernel_rfl)) (head := h_lodgeref3_Elems_0) (ex := e_lodgeref3_Elems_0) (fun n (x : Val (slotsTy h_lodgeref3_Elems_0)) => g_lodgeref3_Elems_0 N n x.1 x.2.1 x.2.2.1) (fun _ => rfl) (fun n x => by kernel_rfl)
theorem F_lodgeref3_Elems_ok (S : Nat → Addr) (N : Nat) : ∀ x y, (c_lodgeref3_Elems N).g x = some y → FCon Go.Proofs.Tryd.prog E S 49 ps_lodgeref3_Elems rs_lodgeref3_Elems x y := by
  intro x y h
  exact fun_spec E_ok mixed (cs_lodgeref3_Elems_ok S N) (f := 49) (fi := ⟨b_lodgeref3_Elems, 22, Go.Proofs.Tryd.f49.results.toList⟩) (by kernel_rfl) (ls := [l_lodgeref3_Elems_0 N]) (.cons (by kernel_rfl) (g_lodgeref3_Elems_0_ok S N N) (.nil)) (by kernel_rfl) (ps := ps_lodgeref3_Elems) (rs := rs_lodgeref3_Elems) (Eq.trans (b := F_lodgeref3_Elems N x.1) (by kernel_rfl) h)

/-! lodge/lodgeref3.Result -/

abbrev ps_lodgeref3_Result : List Ty := [(.int .i64), (.sl (.int .i64)), (.sl (.st (.pair (.sl (.int .i64)) .bool)))]
abbrev rs_lodgeref3_Result : List Slot := [.ag [.sl (.int .i64), .d .bool], .data (.int .i64)]
abbrev cs_lodgeref3_Result (N : Nat) : List CallSpec := [c_lodgeref3_Known N, c_lodgeref3_ValidDesc N, c_lodgeref_Ints N, c_lodgeref3_ElemResult N, c_lodgeref3_Ins N, c_lodgeref3_Args N, c_lodgeref3_seen N, c_lodgeref3_MatResult N, c_lodgeref3_ConvResult N, c_lodgeref3_PoolResult N, c_lodgeref3_SoftResult N, c_lodgeref3_Elems N]
noncomputable abbrev b_lodgeref3_Result : Code := (Go.Proofs.Tryd.f12.body).getD .skip

abbrev j_lodgeref3_Result : Joins := [(19, [(AX.normal, [.data (.int .i64), .data (.sl (.int .i64)), .data (.sl (.st (.pair (.sl (.int .i64)) .bool))), .dead, .dead, .dead, .box [.sl (.int .i64), .d .bool], .dead, .dead, .dead, .dead, .dead, .dead, .dead, .dead, .dead, .dead, .dead, .dead, .dead, .dead, .dead, .dead, .dead, .dead, .dead, .dead, .dead, .dead, .dead, .dead, .dead, .dead, .dead, .dead, .dead, .dead, .dead, .dead, .dead, .dead, .dead, .dead, .dead, .dead, .dead, .dead, .dead, .dead, .dead, .dead, .dead, .dead, .dead, .dead, .dead, .dead, .dead, .dead, .dead, .dead, .dead, .dead, .dead, .dead, .dead, .dead, .dead, .dead, .dead, .dead, .dead, .dead, .dead, .dead, .dead, .dead, .dead, .dead, .dead, .data .bool, .dead, .dead, .dead, .dead, .dead, .dead, .dead, .dead, .dead, .dead, .dead, .dead, .dead, .dead, .dead, .dead, .dead, .dead, .dead, .dead, .dead, .dead, .dead, .dead, .dead, .dead, .dead, .dead, .dead, .dead, .dead, .dead, .dead, .dead, .dead, .dead, .dead, .dead, .dead, .dead, .dead, .dead, .dead, .dead, .dead, .dead, .dead, .dead, .dead, .dead, .dead, .dead, .dead, .dead, .dead, .dead, .dead, .dead, .dead, .dead])]),
  (16, [(AX.normal, [.data (.int .i64), .data (.sl (.int .i64)), .data (.sl (.st (.pair (.sl (.int .i64)) .bool))), .dead, .dead, .dead, .box [.sl (.int .i64), .d .bool], .dead, .dead, .dead, .dead, .dead, .dead, .dead, .dead, .dead, .dead, .dead, .dead, .dead, .dead, .dead, .dead, .dead, .dead, .dead, .dead, .dead, .dead, .dead, .dead, .dead, .dead, .dead, .dead, .dead, .dead, .dead, .dead, .dead, .data (.int .i64), .dead, .dead, .dead, .dead, .dead, .dead, .dead, .dead, .dead, .dead, .dead, .dead, .dead, .dead, .dead, .dead, .dead, .dead, .dead, .dead, .dead, .dead, .dead, .dead, .dead, .dead, .dead, .dead, .dead, .data .bool, .dead, .dead, .dead, .dead, .dead, .dead, .dead, .dead, .dead, .dead, .dead, .dead, .dead, .dead, .dead, .dead, .dead, .dead, .dead, .dead, .dead, .dead, .dead, .dead, .dead, .dead, .dead, .dead, .dead, .dead, .dead, .dead, .dead, .dead, .dead, .dead, .dead, .dead, .dead, .dead, .dead, .dead, .dead, .dead, .dead, .dead, .dead, .dead, .dead, .dead, .dead, .dead, .dead, .dead, .dead, .dead, .dead, .dead, .dead, .dead, .dead, .dead, .dead, .dead, .dead, .dead, .dead, .dead, .dead, .dead])]),
  (8, [(AX.normal, [.data (.int .i64), .data (.sl (.int .i64)), .data (.sl (.st (.pair (.sl (.int .i64)) .bool))), .dead, .dead, .dead, .box [.sl (.int .i64), .d .bool], .dead, .dead, .dead, .dead, .dead, .dead, .dead, .dead, .dead, .dead, .dead, .dead, .dead, .dead, .dead, .dead, .dead, .dead, .dead, .dead, .dead, .dead, .dead, .dead, .dead, .dead, .dead, .dead, .dead, .dead, .dead, .data .bool, .dead, .dead, .dead, .dead, .dead, .dead, .dead, .dead, .dead, .dead, .dead, .dead, .dead, .dead, .dead, .dead, .dead, .dead, .dead, .dead, .dead, .dead, .dead, .dead, .dead, .dead, .dead, .dead, .dead, .dead, .dead, .dead, .dead, .dead, .dead, .dead, .dead, .dead, .dead, .dead, .dead, .dead, .dead, .dead, .dead, .dead, .dead, .dead, .dead, .dead, .dead, .dead, .dead, .dead, .dead, .dead, .dead, .dead, .dead, .dead, .dead, .dead, .dead, .dead, .dead, .dead, .dead, .dead, .dead, .dead, .dead, .dead, .dead, .dead, .dead, .dead, .dead, .dead, .dead, .dead, .dead, .dead, .dead, .dead, .dead, .dead, .dead, .dead, .dead, .dead, .dead, .dead, .dead, .dead, .dead, .dead, .dead, .dead, .dead, .dead, .dead, .dead])])]
def F_lodgeref3_Result (N : Nat) (op_0 : Int) (args_1 : List Int) (ins_2 : List ((List Int × Bool))) : Option ((List Int × (Bool × Unit)) × (Int × Unit)) :=
  Option.bind (F_lodgeref3_Known N op_0) fun y0 =>
  cond (Bool.not (y0).1)
    (
    some ((([] : List Int), (false, ())), ((103 : Int), ())))
    (
    cond (decide (op_0 ≤ (11 : Int)))
      (
      Option.bind (F_lodgeref3_ElemResult N op_0 args_1 ins_2) fun y1 =>
      cond (decide ((List.length ((y1).1).1) = (List.length ((y1).1).1)))
        (
        some y1)
        (
        none))
      (
      Option.bind (
          Option.bind (F_lodgeref3_Ins N op_0) fun y2 =>
          cond (decide (@Ne Int (Nat.cast (List.length ins_2) : Int) (y2).1))
            (
            some (op_0, (args_1, (ins_2, ((([] : List Int), (false, ())), (true, ()))))))
            (
            cond (decide (@Ne Int op_0 (18 : Int)))
              (
              Option.bind (F_lodgeref3_Args N op_0) fun y3 =>
              some (op_0, (args_1, (ins_2, ((([] : List Int), (false, ())), ((decide (@Ne Int (Nat.cast (List.length args_1) : Int) (y3).1)), ()))))))
              (
              some (op_0, (args_1, (ins_2, ((([] : List Int), (false, ())), (false, ())))))))) fun y4 =>
      cond (((((y4).2).2).2).2).1
        (
        some ((([] : List Int), (false, ())), ((101 : Int), ())))
        (
        cond (decide ((y4).1 = (12 : Int)))
          (
          cond (decide (0 < (List.length ((y4).2).1)))
            (
            cond (decide (1 < (List.length ((y4).2).1)))
              (
              cond (decide (0 < (List.length (((y4).2).2).1)))
                (
                cond (decide (1 < (List.length (((y4).2).2).1)))
                  (
                  Option.bind (F_lodgeref3_MatResult N (List.getD ((y4).2).1 0 (0 : Int)) (List.getD ((y4).2).1 1 (0 : Int)) (List.getD (((y4).2).2).1 0 (([] : List Int), false)) (List.getD (((y4).2).2).1 1 (([] : List Int), false))) fun y5 =>
                  cond (decide ((List.length ((y5).1).1) = (List.length ((y5).1).1)))
                    (
                    some y5)
                    (
                    none))
                  (
                  none))
                (
                none))
              (
              none))
            (
            none))
          (
          cond (decide ((y4).1 = (13 : Int)))
            (
            cond (decide (0 < (List.length (((y4).2).2).1)))
              (
              cond (decide (1 < (List.length (((y4).2).2).1)))
                (
                Option.bind (F_lodgeref3_ConvResult N ((y4).2).1 (List.getD (((y4).2).2).1 0 (([] : List Int), false)) (List.getD (((y4).2).2).1 1 (([] : List Int), false))) fun y6 =>
                cond (decide ((List.length ((y6).1).1) = (List.length ((y6).1).1)))
                  (
                  some y6)
                  (
                  none))
                (
                none))
              (
              none))
            (
            Option.bind (
                cond (decide ((y4).1 = (14 : Int)))
                  (
                  cond (decide ((List.length (((((y4).2).2).2).1).1) = (List.length (((((y4).2).2).2).1).1)))
                    (
                    some ((y4).1, (((y4).2).1, ((((y4).2).2).1, (((((y4).2).2).2).1, ((y4).1, (true, ())))))))
                    (
                    none))
                  (
                  cond (decide ((List.length (((((y4).2).2).2).1).1) = (List.length (((((y4).2).2).2).1).1)))
                    (
                    some ((y4).1, (((y4).2).1, ((((y4).2).2).1, (((((y4).2).2).2).1, ((y4).1, ((decide ((y4).1 = (15 : Int))), ())))))))
                    (
                    none))) fun y7 =>
            cond ((((((y7).2).2).2).2).2).1
              (
              cond (decide (0 < (List.length (((y7).2).2).1)))
                (
                Option.bind (F_lodgeref3_PoolResult N ((y7).2).1 (List.getD (((y7).2).2).1 0 (([] : List Int), false))) fun y8 =>
                cond (decide ((List.length ((y8).1).1) = (List.length ((y8).1).1)))
                  (
                  some y8)
                  (
                  none))
                (
                none))
              (
              Option.bind (
                  cond (decide ((((((y7).2).2).2).2).1 = (16 : Int)))
                    (
                    cond (decide ((List.length (((((y7).2).2).2).1).1) = (List.length (((((y7).2).2).2).1).1)))
                      (
                      some ((y7).1, (((y7).2).1, ((((y7).2).2).1, (((((y7).2).2).2).1, (true, ()))))))
                      (
                      none))
                    (
                    cond (decide ((((((y7).2).2).2).2).1 = (17 : Int)))
                      (
                      cond (decide ((List.length (((((y7).2).2).2).1).1) = (List.length (((((y7).2).2).2).1).1)))
                        (
                        some ((y7).1, (((y7).2).1, ((((y7).2).2).1, (((((y7).2).2).2).1, (true, ()))))))
                        (
                        none))
                      (
                      cond (decide ((((((y7).2).2).2).2).1 = (19 : Int)))
                        (
                        cond (decide ((List.length (((((y7).2).2).2).1).1) = (List.length (((((y7).2).2).2).1).1)))
                          (
                          some ((y7).1, (((y7).2).1, ((((y7).2).2).1, (((((y7).2).2).2).1, (true, ()))))))
                          (
                          none))
                        (
                        cond (decide ((List.length (((((y7).2).2).2).1).1) = (List.length (((((y7).2).2).2).1).1)))
                          (
                          some ((y7).1, (((y7).2).1, ((((y7).2).2).1, (((((y7).2).2).2).1, ((decide ((((((y7).2).2).2).2).1 = (20 : Int))), ()))))))
                          (
                          none))))) fun y9 =>
              cond (((((y9).2).2).2).2).1
                (
                Option.bind (F_lodgeref3_SoftResult N (y9).1 (((y9).2).2).1) fun y10 =>
                cond (decide ((List.length ((y10).1).1) = (List.length ((y10).1).1)))
                  (
                  some y10)
                  (
                  none))
                (
                cond (decide (0 < (List.length (((y9).2).2).1)))
                  (
                  Option.bind (F_lodgeref3_ValidDesc N (List.getD (((y9).2).2).1 0 (([] : List Int), false))) fun y11 =>
                  cond (decide (@Ne Int (y11).1 (0 : Int)))
                    (
                    some ((([] : List Int), (false, ())), y11))
                    (
                    cond (decide ((y9).1 = (21 : Int)))
                      (
                      cond (decide (@Ne Int (Nat.cast (List.length ((List.getD (((y9).2).2).1 0 (([] : List Int), false))).1) : Int) (2 : Int)))
                        (
                        some ((([] : List Int), (false, ())), ((101 : Int), ())))
                        (
                        cond (decide (1 < (List.length ((List.getD (((y9).2).2).1 0 (([] : List Int), false))).1)))
                          (
                          cond (decide (0 < (List.length ((List.getD (((y9).2).2).1 0 (([] : List Int), false))).1)))
                            (
                            Option.bind (F_lodgeref3_seen N (((List.getD ((List.getD (((y9).2).2).1 0 (([] : List Int), false))).1 1 (0 : Int)) :: ((List.getD ((List.getD (((y9).2).2).1 0 (([] : List Int), false))).1 0 (0 : Int)) :: ([] : List Int))), ((List.getD (((y9).2).2).1 0 (([] : List Int), false))).2)) fun y12 =>
                            cond (decide ((List.length ((y12).1).1) = (List.length ((y12).1).1)))
                              (
                              some y12)
                              (
                              none))
                            (
                            none))
                          (
                          none)))
                      (
                      Option.bind (F_lodgeref_Ints N ((y9).2).1) fun y13 =>
                      cond (decide (((0 : Nat) + (List.length (y13).1)) ≤ (List.length (y13).1)))
                        (
                        Option.bind (F_lodgeref3_ValidDesc N ((List.take (List.length (y13).1) (y13).1), ((List.getD (((y9).2).2).1 0 (([] : List Int), false))).2)) fun y14 =>
                        cond (decide (@Ne Int (y14).1 (0 : Int)))
                          (
                          some ((([] : List Int), (false, ())), y14))
                          (
                          cond (decide (((0 : Nat) + (List.length (y13).1)) ≤ (List.length (y13).1)))
                            (
                            Option.bind (F_lodgeref3_Elems N (List.take (List.length (y13).1) (y13).1)) fun y15 =>
                            Option.bind (F_lodgeref3_Elems N ((List.getD (((y9).2).2).1 0 (([] : List Int), false))).1) fun y16 =>
                            cond (decide (@Ne Int (y15).1 (y16).1))
                              (
                              some ((([] : List Int), (false, ())), ((101 : Int), ())))
                              (
                              cond (decide ((List.length (y13).1) = (List.length (y13).1)))
                                (
                                some (((y13).1, (((List.getD (((y9).2).2).1 0 (([] : List Int), false))).2, ())), ((0 : Int), ())))
                                (
                                none)))
                            (
                            none)))
                        (
                        none))))
                  (
                  none))))))))

abbrev c_lodgeref3_Result (N : Nat) : CallSpec := ⟨12, ps_lodgeref3_Result, rs_lodgeref3_Result, fun x => F_lodgeref3_Result N x.1 x.2.1 x.2.2.1⟩

theorem cs_lodgeref3_Result_ok (S : Nat → Addr) (N : Nat) : CallsOK Go.Proofs.Tryd.prog E S (cs_lodgeref3_Result N) :=
  .cons (F_lodgeref3_Known_ok S N) (.cons (F_lodgeref3_ValidDesc_ok S N) (.cons (F_lodgeref_Ints_ok S N) (.cons (F_lodgeref3_ElemResult_ok S N) (.cons (F_lodgeref3_Ins_ok S N) (.cons (F_lodgeref3_Args_ok S N) (.cons (F_lodgeref3_seen_ok S N) (.cons (F_lodgeref3_MatResult_ok S N) (.cons (F_lodgeref3_ConvResult_ok S N) (.cons (F_lodgeref3_PoolResult_ok S N) (.cons (F_lodgeref3_SoftResult_ok S N) (.cons (F_lodgeref3_Elems_ok S N) (.nil))))))))))))
theorem F_lodgeref3_Result_ok (S : Nat → Addr) (N : Nat) : ∀ x y, (c_lodgeref3_Result N).g x = some y → FCon Go.Proofs.Tryd.prog E S 12 ps_lodgeref3_Result rs_lodgeref3_Result x y := by
  intro x y h
  exact fun_specJ E_ok mixed (cs_lodgeref3_Result_ok S N) (f := 12) (fi := ⟨b_lodgeref3_Result, 141, Go.Proofs.Tryd.f12.results.toList⟩) (by kernel_rfl) (ls := []) (.nil) (js := j_lodgeref3_Result) (by kernel_rfl) (ps := ps_lodgeref3_Result) (rs := rs_lodgeref3_Result) (Eq.trans (b := F_lodgeref3_Result N x.1 x.2.1 x.2.2.1) (by kernel_rfl) h)

/-! lodge/lodgeref3.Unit -/

abbrev ps_lodgeref3_Unit : List Ty := [(.int .i64), (.sl (.int .i64)), (.sl (.st (.pair (.sl (.int .i64)) .bool)))]
abbrev rs_lodgeref3_Unit : List Slot := [.data (.int .i64), .data (.int .i64)]
abbrev cs_lodgeref3_Unit (N : Nat) : List CallSpec := [c_lodgeref3_Result N]
noncomputable abbrev b_lodgeref3_Unit : Code := (Go.Proofs.Tryd.f14.body).getD .skip

def F_lodgeref3_Unit (N : Nat) (op_0 : Int) (args_1 : List Int) (ins_2 : List ((List Int × Bool))) : Option (Int × (Int × Unit)) :=
  Option.bind (F_lodgeref3_Result N op_0 args_1 ins_2) fun y0 =>
  cond (decide (@Ne Int ((y0).2).1 (0 : Int)))
    (
    some ((0 : Int), (y0).2))
    (
    cond (decide (0 < (List.length ins_2)))
      (
      cond (decide (op_0 = (10 : Int)))
        (
        some ((2 : Int), ((0 : Int), ())))
        (
        cond (decide (op_0 = (12 : Int)))
          (
          cond (decide (1 < (List.length ((List.getD ins_2 0 (([] : List Int), false))).1)))
            (
            some ((List.getD ((List.getD ins_2 0 (([] : List Int), false))).1 1 (0 : Int)), ((0 : Int), ())))
            (
            none))
          (
          cond (decide (op_0 = (13 : Int)))
            (
            cond (decide (1 < (List.length ins_2)))
              (
              cond (decide (0 < (List.length ((List.getD ins_2 1 (([] : List Int), false))).1)))
                (
                cond (decide (1 < (List.length ((List.getD ins_2 1 (([] : List Int), false))).1)))
                  (
                  cond (decide (2 < (List.length ((List.getD ins_2 1 (([] : List Int), false))).1)))
                    (
                    some ((wi64 ((wi64 ((List.getD ((List.getD ins_2 1 (([] : List Int), false))).1 0 (0 : Int)) * (List.getD ((List.getD ins_2 1 (([] : List Int), false))).1 1 (0 : Int)))) * (List.getD ((List.getD ins_2 1 (([] : List Int), false))).1 2 (0 : Int)))), ((0 : Int), ())))
                    (
                    none))
                  (
                  none))
                (
                none))
              (
              none))
            (
            cond (decide (op_0 = (14 : Int)))
              (
              cond (decide (0 < (List.length args_1)))
                (
                cond (decide (0 < (List.length args_1)))
                  (
                  some ((wi64 ((List.getD args_1 0 (0 : Int)) * (List.getD args_1 0 (0 : Int)))), ((0 : Int), ())))
                  (
                  none))
                (
                none))
              (
              cond (decide (op_0 = (15 : Int)))
                (
                cond (decide (0 < (List.length args_1)))
                  (
                  cond (decide (0 < (List.length args_1)))
                    (
                    some ((wi64 ((List.getD args_1 0 (0 : Int)) * (List.getD args_1 0 (0 : Int)))), ((0 : Int), ())))
                    (
                    none))
                  (
                  none))
                (
                cond (decide (op_0 = (16 : Int)))
                  (
                  cond (decide ((0 : Int) ≤ (wi64 ((Nat.cast (List.length ((List.getD ins_2 0 (([] : List Int), false))).1) : Int) - (1 : Int)))))
                    (
                    cond (decide ((Int.toNat (wi64 ((Nat.cast (List.length ((List.getD ins_2 0 (([] : List Int), false))).1) : Int) - (1 : Int)))) < (List.length ((List.getD ins_2 0 (([] : List Int), false))).1)))
                      (
                      some ((List.getD ((List.getD ins_2 0 (([] : List Int), false))).1 (Int.toNat (wi64 ((Nat.cast (List.length ((List.getD ins_2 0 (([] : List Int), false))).1) : Int) - (1 : Int)))) (0 : Int)), ((0 : Int), ())))
                      (
                      none))
                    (
                    none))
                  (
                  cond (decide (op_0 = (19 : Int)))
                    (
                    cond (decide ((0 : Int) ≤ (wi64 ((Nat.cast (List.length ((List.getD ins_2 0 (([] : List Int), false))).1) : Int) - (1 : Int)))))
                      (
                      cond (decide ((Int.toNat (wi64 ((Nat.cast (List.length ((List.getD ins_2 0 (([] : List Int), false))).1) : Int) - (1 : Int)))) < (List.length ((List.getD ins_2 0 (([] : List Int), false))).1)))
                        (
                        some ((List.getD ((List.getD ins_2 0 (([] : List Int), false))).1 (Int.toNat (wi64 ((Nat.cast (List.length ((List.getD ins_2 0 (([] : List Int), false))).1) : Int) - (1 : Int)))) (0 : Int)), ((0 : Int), ())))
                        (
                        none))
                      (
                      none))
                    (
                    cond (decide (op_0 = (20 : Int)))
                      (
                      cond (decide ((0 : Int) ≤ (wi64 ((Nat.cast (List.length ((List.getD ins_2 0 (([] : List Int), false))).1) : Int) - (1 : Int)))))
                        (
                        cond (decide ((Int.toNat (wi64 ((Nat.cast (List.length ((List.getD ins_2 0 (([] : List Int), false))).1) : Int) - (1 : Int)))) < (List.length ((List.getD ins_2 0 (([] : List Int), false))).1)))
                          (
                          some ((List.getD ((List.getD ins_2 0 (([] : List Int), false))).1 (Int.toNat (wi64 ((Nat.cast (List.length ((List.getD ins_2 0 (([] : List Int), false))).1) : Int) - (1 : Int)))) (0 : Int)), ((0 : Int), ())))
                          (
                          none))
                        (
                        none))
                      (
                      some ((1 : Int), ((0 : Int), ())))))))))))
      (
      none))

abbrev c_lodgeref3_Unit (N : Nat) : CallSpec := ⟨14, ps_lodgeref3_Unit, rs_lodgeref3_Unit, fun x => F_lodgeref3_Unit N x.1 x.2.1 x.2.2.1⟩

theorem cs_lodgeref3_Unit_ok (S : Nat → Addr) (N : Nat) : CallsOK Go.Proofs.Tryd.prog E S (cs_lodgeref3_Unit N) :=
  .cons (F_lodgeref3_Result_ok S N) (.nil)
theorem F_lodgeref3_Unit_ok (S : Nat → Addr) (N : Nat) : ∀ x y, (c_lodgeref3_Unit N).g x = some y → FCon Go.Proofs.Tryd.prog E S 14 ps_lodgeref3_Unit rs_lodgeref3_Unit x y := by
  intro x y h
  exact fun_spec E_ok mixed (cs_lodgeref3_Unit_ok S N) (f := 14) (fi := ⟨b_lodgeref3_Unit, 71, Go.Proofs.Tryd.f14.results.toList⟩) (by kernel_rfl) (ls := []) (.nil) (by kernel_rfl) (ps := ps_lodgeref3_Unit) (rs := rs_lodgeref3_Unit) (Eq.trans (b := F_lodgeref3_Unit N x.1 x.2.1 x.2.2.1) (by kernel_rfl) h)

/-! lodge/lodgelaw12.light -/

abbrev ps_lodgelaw12_light : List Ty := [(.int .i64), (.sl (.int .i64)), (.sl (.st (.pair (.st (.pair (.sl (.int .i64)) .bool)) (.sl (.int .i64)))))]
abbrev rs_lodgelaw12_light : List Slot := [.data .bool]
abbrev cs_lodgelaw12_light (N : Nat) : List CallSpec := [c_lodgeworld_Tensors N, c_lodgeref3_Elems N, c_lodgeref3_Result N, c_lodgeref3_Unit N]
noncomputable abbrev b_lodgelaw12_light : Code := (Go.Proofs.Tryd.f25.body).getD .skip

abbrev h_lodgelaw12_light_0 : List Slot := [.data (.int .i64), .data (.sl (.int .i64)), .data (.sl (.st (.pair (.st (.pair (.sl (.int .i64)) .bool)) (.sl (.int .i64))))), .dead, .dead, .dead, .dead, .sl (.st (.pair (.sl (.int .i64)) .bool)), .data (.int .i64), .dead, .dead, .dead, .dead, .dead, .dead, .dead, .dead, .dead, .dead, .dead, .dead, .dead, .dead, .dead, .dead, .dead, .dead, .dead, .dead, .dead, .dead, .dead, .dead, .dead, .dead, .dead, .dead, .dead, .dead, .dead, .dead, .dead, .dead, .dead, .dead, .dead, .dead, .dead, .dead, .dead, .dead, .dead, .dead, .dead, .dead, .dead, .dead, .dead, .dead]
abbrev e_lodgelaw12_light_0 : List (AX × List Slot) := [(AX.exit 0, [.data (.int .i64), .data (.sl (.int .i64)), .dead, .dead, .dead, .dead, .dead, .sl (.st (.pair (.sl (.int .i64)) .bool)), .dead, .dead, .dead, .dead, .dead, .dead, .dead, .dead, .dead, .dead, .dead, .dead, .dead, .dead, .dead, .dead, .dead, .dead, .dead, .dead, .dead, .dead, .dead, .dead, .dead, .dead, .dead, .dead, .dead, .dead, .dead, .dead, .dead, .dead, .dead, .dead, .dead, .dead, .dead, .dead, .dead, .dead, .dead, .dead, .dead, .dead, .dead, .dead, .dead, .dead, .dead])]
def g_lodgelaw12_light_0 (N : Nat) : Nat → Int → List Int → List (((List Int × Bool) × List Int)) → List ((List Int × Bool)) → Int → Option (Int × (List Int × (List ((List Int × Bool)) × Unit)))
  | 0, _, _, _, _, _ => none
  | n + 1, o_0, args_1, ins_2, d_7, i_8 =>
    cond (decide (i_8 < (Nat.cast (List.length ins_2) : Int)))
      (
      cond (decide ((0 : Int) ≤ i_8))
        (
        cond (decide ((Int.toNat i_8) < (List.length ins_2)))
          (
          cond (decide (((0 : Nat) + (List.length d_7)) = (List.length d_7)))
            (
            cond (decide ((((List.length d_7) + 1) * (32 + (1 : Nat))) ≤ Go.Eng.most))
              (
              cond (decide (((List.length d_7) + 1) = (List.length ((List.take (List.length d_7) d_7) ++ (((List.getD ins_2 (Int.toNat i_8) ((([] : List Int), false), ([] : List Int)))).1 :: ([] : List ((List Int) × Bool)))))))
                (
                (g_lodgelaw12_light_0 N n o_0 args_1 ins_2 ((List.take (List.length d_7) d_7) ++ (((List.getD ins_2 (Int.toNat i_8) ((([] : List Int), false), ([] : List Int)))).1 :: ([] : List ((List Int) × Bool)))) (wi64 (i_8 + (1 : Int)))))
                (
                none))
              (
              none))
            (
            none))
          (
          none))
        (
        none))
      (
      cond (decide ((List.length d_7) = (List.length d_7)))
        (
        some (o_0, (args_1, (d_7, ()))))
        (
        none))

def F_lodgelaw12_light (N : Nat) (o_0 : Int) (args_1 : List Int) (ins_2 : List (((List Int × Bool) × List Int))) : Option (Bool × Unit) :=
  cond (decide ((10 : Int) < (Nat.cast (List.length args_1) : Int)))
    (
    some (false, ()))
    (
    Option.bind (F_lodgeworld_Tensors N ins_2 (3 : Int) (300 : Int)) fun y0 =>
    cond (Bool.not (y0).1)
      (
      some (false, ()))
      (
      Option.bind (g_lodgelaw12_light_0 N N o_0 args_1 ins_2 ([] : List ((List Int) × Bool)) (0 : Int)) fun y1 =>
      cond (decide (((0 : Nat) + (List.length (((y1).2).2).1)) ≤ (List.length (((y1).2).2).1)))
        (
        Option.bind (F_lodgeref3_Result N (y1).1 ((y1).2).1 (List.take (List.length (((y1).2).2).1) (((y1).2).2).1)) fun y2 =>
        cond (decide (((0 : Nat) + (List.length (((y1).2).2).1)) ≤ (List.length (((y1).2).2).1)))
          (
          Option.bind (F_lodgeref3_Unit N (y1).1 ((y1).2).1 (List.take (List.length (((y1).2).2).1) (((y1).2).2).1)) fun y3 =>
          cond (decide (@Ne Int ((y2).2).1 (0 : Int)))
            (
            some (true, ()))
            (
            cond (decide (((0 : Nat) + (List.length ((y2).1).1)) ≤ (List.length ((y2).1).1)))
              (
              Option.bind (F_lodgeref3_Elems N (List.take (List.length ((y2).1).1) ((y2).1).1)) fun y4 =>
              some ((decide ((wi64 ((y4).1 * (y3).1)) ≤ (100000 : Int))), ()))
              (
              none)))
          (
          none))
        (
        none)))

abbrev c_lodgelaw12_light (N : Nat) : CallSpec := ⟨25, ps_lodgelaw12_light, rs_lodgelaw12_light, fun x => F_lodgelaw12_light N x.1 x.2.1 x.2.2.1⟩
abbrev l_lodgelaw12_light_0 (N : Nat) : LoopSpec := ⟨0, h_lodgelaw12_light_0, e_lodgelaw12_light_0, fun x => g_lodgelaw12_light_0 N N x.1 x.2.1 x.2.2.1 x.2.2.2.1 x.2.2.2.2.1⟩

theorem cs_lodgelaw12_light_ok (S : Nat → Addr) (N : Nat) : CallsOK Go.Proofs.Tryd.prog E S (cs_lodgelaw12_light N) :=
  .cons (F_lodgeworld_Tensors_ok S N) (.cons (F_lodgeref3_Elems_ok S N) (.cons (F_lodgeref3_Result_ok S N) (.cons (F_lodgeref3_Unit_ok S N) (.nil))))
noncomputable abbrev b_lodgelaw12_light_0 : Code := (loopsOf b_lodgelaw12_light).getD 0 .skip
theorem g_lodgelaw12_light_0_ok (S : Nat → Addr) (N : Nat) : ∀ n x y, (fun (x : Val (slotsTy h_lodgelaw12_light_0)) => g_lodgelaw12_light_0 N n x.1 x.2.1 x.2.2.1 x.2.2.2.1 x.2.2.2.2.1) x = some y → LoopCon Go.Proofs.Tryd.prog E S b_lodgelaw12_light_0 (encSlots h_lodgelaw12_light_0 x) (encEx e_lodgelaw12_light_0 y).1 (encEx e_lodgelaw12_light_0 y).2 :=
  loop_spec E_ok mixed (cs_lodgelaw12_light_ok S N) (all := loopsOf b_lodgelaw12_light) (ls := []) (.nil) (i := 0) (by kernel_rfl) (inner_of (by kernel_rfl)) (head := h_lodgelaw12_light_0) (ex := e_lodgelaw12_light_0) (fun n (x : Val (slotsTy h_lodgelaw12_light_0)) => g_lodgelaw12_light_0 N n x.1 x.2.1 x.2.2.1 x.2.2.2.1 x.2.2.2.2.1) (fun _ => rfl) (fun n x => by kernel_rfl)
theorem F_lodgelaw12_light_ok (S : Nat → Addr) (N : Nat) : ∀ x y, (c_lodgelaw12_light N).g x = some y → FCon Go.Proofs.Tryd.prog E S 25 ps_lodgelaw12_light rs_lodgelaw12_light x y := by
  intro x y h
  exact fun_spec E_ok mixed (cs_lodgelaw12_light_ok S N) (f := 25) (fi := ⟨b_lodgelaw12_light, 59, Go.Proofs.Tryd.f25.results.toList⟩) (by kernel_rfl) (ls := [l_lodgelaw12_light_0 N]) (.cons (by kernel_rfl) (g_lodgelaw12_light_0_ok S N N) (.nil)) (by kernel_rfl) (ps := ps_lodgelaw12_light) (rs := rs_lodgelaw12_light) (Eq.trans (b := F_lodgelaw12_light N x.1 x.2.1 x.2.2.1) (by kernel_rfl) h)

/-! lodge/lodgeref.Tensor -/

abbrev ps_lodgeref_Tensor : List Ty := [(.st (.pair (.st (.pair (.sl (.int .i64)) .bool)) (.sl (.int .i64))))]
abbrev rs_lodgeref_Tensor : List Slot := [.ag [.sl (.int .i64), .d .bool, .sl (.int .i64)]]
abbrev cs_lodgeref_Tensor (N : Nat) : List CallSpec := [c_lodgeref_Ints N, c_lodgeref_Desc N]
noncomputable abbrev b_lodgeref_Tensor : Code := (Go.Proofs.Tryd.f59.body).getD .skip

def F_lodgeref_Tensor (N : Nat) (a_0 : ((List Int × Bool) × List Int)) : Option ((List Int × (Bool × (List Int × Unit))) × Unit) :=
  Option.bind (F_lodgeref_Desc N (a_0).1) fun y0 =>
  Option.bind (F_lodgeref_Ints N (a_0).2) fun y1 =>
  cond (decide ((List.length ((y0).1).1) = (List.length ((y0).1).1)))
    (
    cond (decide ((List.length (y1).1) = (List.length (y1).1)))
      (
      some ((((y0).1).1, ((((y0).1).2).1, y1)), ()))
      (
      none))
    (
    none)

abbrev c_lodgeref_Tensor (N : Nat) : CallSpec := ⟨59, ps_lodgeref_Tensor, rs_lodgeref_Tensor, fun x => F_lodgeref_Tensor N x.1⟩

theorem cs_lodgeref_Tensor_ok (S : Nat → Addr) (N : Nat) : CallsOK Go.Proofs.Tryd.prog E S (cs_lodgeref_Tensor N) :=
  .cons (F_lodgeref_Ints_ok S N) (.cons (F_lodgeref_Desc_ok S N) (.nil))
theorem F_lodgeref_Tensor_ok (S : Nat → Addr) (N : Nat) : ∀ x y, (c_lodgeref_Tensor N).g x = some y → FCon Go.Proofs.Tryd.prog E S 59 ps_lodgeref_Tensor rs_lodgeref_Tensor x y := by
  intro x y h
  exact fun_spec E_ok mixed (cs_lodgeref_Tensor_ok S N) (f := 59) (fi := ⟨b_lodgeref_Tensor, 10, Go.Proofs.Tryd.f59.results.toList⟩) (by kernel_rfl) (ls := []) (.nil) (by kernel_rfl) (ps := ps_lodgeref_Tensor) (rs := rs_lodgeref_Tensor) (Eq.trans (b := F_lodgeref_Tensor N x.1) (by kernel_rfl) h)

/-! lodge/lodgeref.Tensors -/

abbrev ps_lodgeref_Tensors : List Ty := [(.sl (.st (.pair (.st (.pair (.sl (.int .i64)) .bool)) (.sl (.int .i64)))))]
abbrev rs_lodgeref_Tensors : List Slot := [.sl (.st (.pair (.st (.pair (.sl (.int .i64)) .bool)) (.sl (.int .i64))))]
abbrev cs_lodgeref_Tensors (N : Nat) : List CallSpec := [c_lodgeref_Tensor N]
noncomputable abbrev b_lodgeref_Tensors : Code := (Go.Proofs.Tryd.f26.body).getD .skip

abbrev h_lodgeref_Tensors_0 : List Slot := [.data (.sl (.st (.pair (.st (.pair (.sl (.int .i64)) .bool)) (.sl (.int .i64))))), .dead, .dead, .sl (.st (.pair (.st (.pair (.sl (.int .i64)) .bool)) (.sl (.int .i64)))), .data (.int .i64), .dead, .dead, .dead, .dead, .dead, .dead, .dead, .dead, .dead, .dead, .dead, .dead, .dead, .dead, .dead, .dead, .dead, .dead]
abbrev e_lodgeref_Tensors_0 : List (AX × List Slot) := [(AX.exit 0, [.dead, .dead, .dead, .sl (.st (.pair (.st (.pair (.sl (.int .i64)) .bool)) (.sl (.int .i64)))), .dead, .dead, .dead, .dead, .dead, .dead, .dead, .dead, .dead, .dead, .dead, .dead, .dead, .dead, .dead, .dead, .dead, .dead, .dead])]
def g_lodgeref_Tensors_0 (N : Nat) : Nat → List (((List Int × Bool) × List Int)) → List (((List Int × Bool) × List Int)) → Int → Option (List (((List Int × Bool) × List Int)) × Unit)
  | 0, _, _, _ => none
  | n + 1, a_0, out_3, i_4 =>
    cond (decide (i_4 < (Nat.cast (List.length a_0) : Int)))
      (
      cond (decide ((0 : Int) ≤ i_4))
        (
        cond (decide ((Int.toNat i_4) < (List.length a_0)))
          (
          Option.bind (F_lodgeref_Tensor N (List.getD a_0 (Int.toNat i_4) ((([] : List Int), false), ([] : List Int)))) fun y1 =>
          cond (decide (((0 : Nat) + (List.length ((y1).1).1)) ≤ (List.length ((y1).1).1)))
            (
            cond (decide (((0 : Nat) + (List.length ((((y1).1).2).2).1)) ≤ (List.length ((((y1).1).2).2).1)))
              (
              cond (decide (((0 : Nat) + (List.length out_3)) = (List.length out_3)))
                (
                cond (decide ((((List.length out_3) + 1) * (56 + (1 : Nat))) ≤ Go.Eng.most))
                  (
                  cond (decide (((List.length out_3) + 1) = (List.length ((List.take (List.length out_3) out_3) ++ ((((List.take (List.length ((y1).1).1) ((y1).1).1), (((y1).1).2).1), (List.take (List.length ((((y1).1).2).2).1) ((((y1).1).2).2).1)) :: ([] : List (((List Int) × Bool) × (List Int))))))))
                    (
                    (g_lodgeref_Tensors_0 N n a_0 ((List.take (List.length out_3) out_3) ++ ((((List.take (List.length ((y1).1).1) ((y1).1).1), (((y1).1).2).1), (List.take (List.length ((((y1).1).2).2).1) ((((y1).1).2).2).1)) :: ([] : List (((List Int) × Bool) × (List Int))))) (wi64 (i_4 + (1 : Int)))))
                    (
                    none))
                  (
                  none))
                (
                none))
              (
              none))
            (
            none))
          (
          none))
        (
        none))
      (
      cond (decide ((List.length out_3) = (List.length out_3)))
        (
        some (out_3, ()))
        (
        none))

def F_lodgeref_Tensors (N : Nat) (a_0 : List (((List Int × Bool) × List Int))) : Option (List (((List Int × Bool) × List Int)) × Unit) :=
  cond (decide (((Nat.cast (List.length a_0) : Int) * ((Nat.cast 56 : Int) + (1 : Int))) ≤ (Nat.cast Go.Eng.most : Int)))
    (
    Option.bind (g_lodgeref_Tensors_0 N N a_0 (List.replicate 0 ((([] : List Int), false), ([] : List Int))) (0 : Int)) fun y0 =>
    cond (decide ((List.length (y0).1) = (List.length (y0).1)))
      (
      some y0)
      (
      none))
    (
    none)

abbrev c_lodgeref_Tensors (N : Nat) : CallSpec := ⟨26, ps_lodgeref_Tensors, rs_lodgeref_Tensors, fun x => F_lodgeref_Tensors N x.1⟩
abbrev l_lodgeref_Tensors_0 (N : Nat) : LoopSpec := ⟨0, h_lodgeref_Tensors_0, e_lodgeref_Tensors_0, fun x => g_lodgeref_Tensors_0 N N x.1 x.2.1 x.2.2.1⟩

theorem cs_lodgeref_Tensors_ok (S : Nat → Addr) (N : Nat) : CallsOK Go.Proofs.Tryd.prog E S (cs_lodgeref_Tensors N) :=
  .cons (F_lodgeref_Tensor_ok S N) (.nil)
noncomputable abbrev b_lodgeref_Tensors_0 : Code := (loopsOf b_lodgeref_Tensors).getD 0 .skip
theorem g_lodgeref_Tensors_0_ok (S : Nat → Addr) (N : Nat) : ∀ n x y, (fun (x : Val (slotsTy h_lodgeref_Tensors_0)) => g_lodgeref_Tensors_0 N n x.1 x.2.1 x.2.2.1) x = some y → LoopCon Go.Proofs.Tryd.prog E S b_lodgeref_Tensors_0 (encSlots h_lodgeref_Tensors_0 x) (encEx e_lodgeref_Tensors_0 y).1 (encEx e_lodgeref_Tensors_0 y).2 :=
  loop_spec E_ok mixed (cs_lodgeref_Tensors_ok S N) (all := loopsOf b_lodgeref_Tensors) (ls := []) (.nil) (i := 0) (by kernel_rfl) (inner_of (by kernel_rfl)) (head := h_lodgeref_Tensors_0) (ex := e_lodgeref_Tensors_0) (fun n (x : Val (slotsTy h_lodgeref_Tensors_0)) => g_lodgeref_Tensors_0 N n x.1 x.2.1 x.2.2.1) (fun _ => rfl) (fun n x => by kernel_rfl)
theorem F_lodgeref_Tensors_ok (S : Nat → Addr) (N : Nat) : ∀ x y, (c_lodgeref_Tensors N).g x = some y → FCon Go.Proofs.Tryd.prog E S 26 ps_lodgeref_Tensors rs_lodgeref_Tensors x y := by
  intro x y h
  exact fun_spec E_ok mixed (cs_lodgeref_Tensors_ok S N) (f := 26) (fi := ⟨b_lodgeref_Tensors, 23, Go.Proofs.Tryd.f26.results.toList⟩) (by kernel_rfl) (ls := [l_lodgeref_Tensors_0 N]) (.cons (by kernel_rfl) (g_lodgeref_Tensors_0_ok S N N) (.nil)) (by kernel_rfl) (ps := ps_lodgeref_Tensors) (rs := rs_lodgeref_Tensors) (Eq.trans (b := F_lodgeref_Tensors N x.1) (by kernel_rfl) h)

/-! lodge/lodgeref.SameTensors -/

abbrev ps_lodgeref_SameTensors : List Ty := [(.sl (.st (.pair (.st (.pair (.sl (.int .i64)) .bool)) (.sl (.int .i64))))), (.sl (.st (.pair (.st (.pair (.sl (.int .i64)) .bool)) (.sl (.int .i64)))))]
abbrev rs_lodgeref_SameTensors : List Slot := [.data .bool]
abbrev cs_lodgeref_SameTensors (N : Nat) : List CallSpec := [c_lodgeref_SameTensor N]
noncomputable abbrev b_lodgeref_SameTensors : Code := (Go.Proofs.Tryd.f27.body).getD .skip

abbrev h_lodgeref_SameTensors_0 : List Slot := [.data (.sl (.st (.pair (.st (.pair (.sl (.int .i64)) .bool)) (.sl (.int .i64))))), .data (.sl (.st (.pair (.st (.pair (.sl (.int .i64)) .bool)) (.sl (.int .i64))))), .dead, .dead, .dead, .data (.int .i64), .dead, .dead, .dead, .dead, .dead, .dead, .dead, .dead, .dead, .dead, .dead, .dead, .dead, .dead, .dead, .dead, .dead, .dead, .dead, .dead, .dead, .dead, .dead]
abbrev e_lodgeref_SameTensors_0 : List (AX × List Slot) := [(AX.exit 0, [.dead, .dead, .dead, .dead, .dead, .dead, .dead, .dead, .dead, .dead, .dead, .dead, .dead, .dead, .dead, .dead, .dead, .dead, .dead, .dead, .dead, .dead, .dead, .dead, .dead, .dead, .dead, .dead, .dead]), (AX.ret, [.dead, .dead, .dead, .dead, .data .bool, .dead, .dead, .dead, .dead, .dead, .dead, .dead, .dead, .dead, .dead, .dead, .dead, .dead, .dead, .dead, .dead, .dead, .dead, .dead, .dead, .dead, .dead, .dead, .dead])]
def g_lodgeref_SameTensors_0 (N : Nat) : Nat → List (((List Int × Bool) × List Int)) → List (((List Int × Bool) × List Int)) → Int → Option (Sum Unit (Bool × Unit))
  | 0, _, _, _ => none
  | n + 1, a_0, b_1, i_5 =>
    cond (decide (i_5 < (Nat.cast (List.length a_0) : Int)))
      (
      cond (decide ((0 : Int) ≤ i_5))
        (
        cond (decide ((Int.toNat i_5) < (List.length a_0)))
          (
          cond (decide ((0 : Int) ≤ i_5))
            (
            cond (decide ((Int.toNat i_5) < (List.length b_1)))
              (
              Option.bind (F_lodgeref_SameTensor N (List.getD a_0 (Int.toNat i_5) ((([] : List Int), false), ([] : List Int))) (List.getD b_1 (Int.toNat i_5) ((([] : List Int), false), ([] : List Int)))) fun y1 =>
              cond (Bool.not (y1).1)
                (
                some (Sum.inr (false, ())))
                (
                (g_lodgeref_SameTensors_0 N n a_0 b_1 (wi64 (i_5 + (1 : Int))))))
              (
              none))
            (
            none))
          (
          none))
        (
        none))
      (
      some (Sum.inl ()))

def F_lodgeref_SameTensors (N : Nat) (a_0 : List (((List Int × Bool) × List Int))) (b_1 : List (((List Int × Bool) × List Int))) : Option (Bool × Unit) :=
  cond (decide (@Ne Int (Nat.cast (List.length a_0) : Int) (Nat.cast (List.length b_1) : Int)))
    (
    some (false, ()))
    (
    Option.bind (g_lodgeref_SameTensors_0 N N a_0 b_1 (0 : Int)) fun y0 =>
    Sum.elim (fun y1 =>
      some (true, ()))
      (fun y2 =>
      some y2) y0)

abbrev c_lodgeref_SameTensors (N : Nat) : CallSpec := ⟨27, ps_lodgeref_SameTensors, rs_lodgeref_SameTensors, fun x => F_lodgeref_SameTensors N x.1 x.2.1⟩
abbrev l_lodgeref_SameTensors_0 (N : Nat) : LoopSpec := ⟨0, h_lodgeref_SameTensors_0, e_lodgeref_SameTensors_0, fun x => g_lodgeref_SameTensors_0 N N x.1 x.2.1 x.2.2.1⟩

theorem cs_lodgeref_SameTensors_ok (S : Nat → Addr) (N : Nat) : CallsOK Go.Proofs.Tryd.prog E S (cs_lodgeref_SameTensors N) :=
  .cons (F_lodgeref_SameTensor_ok S N) (.nil)
noncomputable abbrev b_lodgeref_SameTensors_0 : Code := (loopsOf b_lodgeref_SameTensors).getD 0 .skip
theorem g_lodgeref_SameTensors_0_ok (S : Nat → Addr) (N : Nat) : ∀ n x y, (fun (x : Val (slotsTy h_lodgeref_SameTensors_0)) => g_lodgeref_SameTensors_0 N n x.1 x.2.1 x.2.2.1) x = some y → LoopCon Go.Proofs.Tryd.prog E S b_lodgeref_SameTensors_0 (encSlots h_lodgeref_SameTensors_0 x) (encEx e_lodgeref_SameTensors_0 y).1 (encEx e_lodgeref_SameTensors_0 y).2 :=
  loop_spec E_ok mixed (cs_lodgeref_SameTensors_ok S N) (all := loopsOf b_lodgeref_SameTensors) (ls := []) (.nil) (i := 0) (by kernel_rfl) (inner_of (by kernel_rfl)) (head := h_lodgeref_SameTensors_0) (ex := e_lodgeref_SameTensors_0) (fun n (x : Val (slotsTy h_lodgeref_SameTensors_0)) => g_lodgeref_SameTensors_0 N n x.1 x.2.1 x.2.2.1) (fun _ => rfl) (fun n x => by kernel_rfl)
theorem F_lodgeref_SameTensors_ok (S : Nat → Addr) (N : Nat) : ∀ x y, (c_lodgeref_SameTensors N).g x = some y → FCon Go.Proofs.Tryd.prog E S 27 ps_lodgeref_SameTensors rs_lodgeref_SameTensors x y := by
  intro x y h
  exact fun_spec E_ok mixed (cs_lodgeref_SameTensors_ok S N) (f := 27) (fi := ⟨b_lodgeref_SameTensors, 29, Go.Proofs.Tryd.f27.results.toList⟩) (by kernel_rfl) (ls := [l_lodgeref_SameTensors_0 N]) (.cons (by kernel_rfl) (g_lodgeref_SameTensors_0_ok S N N) (.nil)) (by kernel_rfl) (ps := ps_lodgeref_SameTensors) (rs := rs_lodgeref_SameTensors) (Eq.trans (b := F_lodgeref_SameTensors N x.1 x.2.1) (by kernel_rfl) h)

/-! lodge/op.Element -/

abbrev ps_op_Element : List Ty := [(.int .i64), (.sl (.int .i64)), (.int .i64), (.sl (.st (.pair (.st (.pair (.sl (.int .i64)) .bool)) (.sl (.int .i64)))))]
abbrev rs_op_Element : List Slot := [.data (.int .i64)]
abbrev cs_op_Element (N : Nat) : List CallSpec := [c_shape_Elems N, c_op_result N, c_op_reads N, c_op_At N]
noncomputable abbrev b_op_Element : Code := (Go.Proofs.Tryd.f28.body).getD .skip

def F_op_Element (N : Nat) (op_0 : Int) (args_1 : List Int) (i_2 : Int) (ins_3 : List (((List Int × Bool) × List Int))) : Option (Int × Unit) :=
  Option.bind (F_op_result N op_0 args_1 ins_3) fun y0 =>
  cond (Bool.not (Go.Eng.Er.isNil (((y0).2).2).1))
    (
    some ((0 : Int), ()))
    (
    cond (decide (i_2 < (0 : Int)))
      (
      some ((0 : Int), ()))
      (
      Option.bind (F_shape_Elems N ((y0).1).1) fun y1 =>
      cond (decide ((y1).1 ≤ i_2))
        (
        some ((0 : Int), ()))
        (
        Option.bind (F_op_reads N ins_3) fun y2 =>
        cond (decide (((0 : Nat) + (List.length (y2).1)) ≤ (List.length (y2).1)))
          (
          Option.bind (F_op_At N op_0 args_1 i_2 (y0).1 ((y0).2).1 (List.take (List.length (y2).1) (y2).1)) fun y3 =>
          some y3)
          (
          none))))

abbrev c_op_Element (N : Nat) : CallSpec := ⟨28, ps_op_Element, rs_op_Element, fun x => F_op_Element N x.1 x.2.1 x.2.2.1 x.2.2.2.1⟩

theorem cs_op_Element_ok (S : Nat → Addr) (N : Nat) : CallsOK Go.Proofs.Tryd.prog E S (cs_op_Element N) :=
  .cons (F_shape_Elems_ok S N) (.cons (F_op_result_ok S N) (.cons (F_op_reads_ok S N) (.cons (F_op_At_ok S N) (.nil))))
theorem F_op_Element_ok (S : Nat → Addr) (N : Nat) : ∀ x y, (c_op_Element N).g x = some y → FCon Go.Proofs.Tryd.prog E S 28 ps_op_Element rs_op_Element x y := by
  intro x y h
  exact fun_spec E_ok mixed (cs_op_Element_ok S N) (f := 28) (fi := ⟨b_op_Element, 41, Go.Proofs.Tryd.f28.results.toList⟩) (by kernel_rfl) (ls := []) (.nil) (by kernel_rfl) (ps := ps_op_Element) (rs := rs_op_Element) (Eq.trans (b := F_op_Element N x.1 x.2.1 x.2.2.1 x.2.2.2.1) (by kernel_rfl) h)

/-! lodge/lodgelaw12.OpElements -/

abbrev ps_lodgelaw12_OpElements : List Ty := [(.int .i64), (.sl (.int .i64)), (.sl (.st (.pair (.st (.pair (.sl (.int .i64)) .bool)) (.sl (.int .i64)))))]
abbrev rs_lodgelaw12_OpElements : List Slot := [.data .bool]
abbrev cs_lodgelaw12_OpElements (N : Nat) : List CallSpec := [c_op_Result N, c_lodgelaw12_first N, c_tens_Valid N, c_op_Apply N, c_lodgeref_SameDesc N, c_lodgelaw12_light N, c_lodgeref_Tensors N, c_lodgeref_SameTensors N, c_op_Element N]
noncomputable abbrev b_lodgelaw12_OpElements : Code := (Go.Proofs.Tryd.f8.body).getD .skip

abbrev h_lodgelaw12_OpElements_0 : List Slot := [.data (.int .i64), .data (.sl (.int .i64)), .data (.sl (.st (.pair (.st (.pair (.sl (.int .i64)) .bool)) (.sl (.int .i64))))), .dead, .dead, .dead, .dead, .dead, .dead, .box [.d (.sl (.int .i64)), .d .bool, .sl (.int .i64)], .dead, .sl (.st (.pair (.sl (.int .i64)) .bool)), .data (.int .i64), .dead, .dead, .dead, .dead, .dead, .dead, .dead, .dead, .dead, .dead, .dead, .dead, .dead, .dead, .dead, .dead, .dead, .dead, .dead, .dead, .dead, .dead, .dead, .dead, .dead, .dead, .dead, .dead, .dead, .dead, .dead, .dead, .dead, .dead, .dead, .dead, .dead, .dead, .dead, .dead, .dead, .dead, .dead, .dead, .dead, .dead, .dead, .dead, .dead, .dead, .dead, .dead, .dead, .dead, .dead, .dead, .dead, .dead, .dead, .dead, .dead, .dead, .dead, .dead, .dead, .dead, .dead, .dead, .dead, .dead, .dead, .dead, .dead, .dead, .dead, .dead, .dead, .dead, .dead, .dead, .dead, .dead, .dead, .dead, .dead, .dead, .dead, .dead, .dead, .dead, .dead, .dead, .dead, .dead, .dead, .dead, .dead, .dead, .dead, .dead, .dead, .dead, .dead, .dead, .dead, .dead, .dead, .dead, .dead, .dead, .dead, .dead, .dead, .dead]
abbrev e_lodgelaw12_OpElements_0 : List (AX × List Slot) := [(AX.exit 0, [.data (.int .i64), .data (.sl (.int .i64)), .data (.sl (.st (.pair (.st (.pair (.sl (.int .i64)) .bool)) (.sl (.int .i64))))), .dead, .dead, .dead, .dead, .dead, .dead, .box [.d (.sl (.int .i64)), .d .bool, .sl (.int .i64)], .dead, .sl (.st (.pair (.sl (.int .i64)) .bool)), .dead, .dead, .dead, .dead, .dead, .dead, .dead, .dead, .dead, .dead, .dead, .dead, .dead, .dead, .dead, .dead, .dead, .dead, .dead, .dead, .dead, .dead, .dead, .dead, .dead, .dead, .dead, .dead, .dead, .dead, .dead, .dead, .dead, .dead, .dead, .dead, .dead, .dead, .dead, .dead, .dead, .dead, .dead, .dead, .dead, .dead, .dead, .dead, .dead, .dead, .dead, .dead, .dead, .dead, .dead, .dead, .dead, .dead, .dead, .dead, .dead, .dead, .dead, .dead, .dead, .dead, .dead, .dead, .dead, .dead, .dead, .dead, .dead, .dead, .dead, .dead, .dead, .dead, .dead, .dead, .dead, .dead, .dead, .dead, .dead, .dead, .dead, .dead, .dead, .dead, .dead, .dead, .dead, .dead, .dead, .dead, .dead, .dead, .dead, .dead, .dead, .dead, .dead, .dead, .dead, .dead, .dead, .dead, .dead, .dead, .dead, .dead, .dead, .dead, .dead])]
def g_lodgelaw12_OpElements_0 (N : Nat) : Nat → Int → List Int → List (((List Int × Bool) × List Int)) → (List Int × (Bool × (List Int × Unit))) → List ((List Int × Bool)) → Int → Option (Int × (List Int × (List (((List Int × Bool) × List Int)) × ((List Int × (Bool × (List Int × Unit))) × (List ((List Int × Bool)) × Unit)))))
  | 0, _, _, _, _, _, _ => none
  | n + 1, o_0, args_1, ins_2, t_9, d_11, i_12 =>
    cond (decide (i_12 < (Nat.cast (List.length ins_2) : Int)))
      (
      cond (decide ((0 : Int) ≤ i_12))
        (
        cond (decide ((Int.toNat i_12) < (List.length ins_2)))
          (
          cond (decide (((0 : Nat) + (List.length d_11)) = (List.length d_11)))
            (
            cond (decide ((((List.length d_11) + 1) * (32 + (1 : Nat))) ≤ Go.Eng.most))
              (
              cond (decide ((List.length (((t_9).2).2).1) = (List.length (((t_9).2).2).1)))
                (
                cond (decide (((List.length d_11) + 1) = (List.length ((List.take (List.length d_11) d_11) ++ (((List.getD ins_2 (Int.toNat i_12) ((([] : List Int), false), ([] : List Int)))).1 :: ([] : List ((List Int) × Bool)))))))
                  (
                  (g_lodgelaw12_OpElements_0 N n o_0 args_1 ins_2 t_9 ((List.take (List.length d_11) d_11) ++ (((List.getD ins_2 (Int.toNat i_12) ((([] : List Int), false), ([] : List Int)))).1 :: ([] : List ((List Int) × Bool)))) (wi64 (i_12 + (1 : Int)))))
                  (
                  none))
                (
                none))
              (
              none))
            (
            none))
          (
          none))
        (
        none))
      (
      cond (decide ((List.length (((t_9).2).2).1) = (List.length (((t_9).2).2).1)))
        (
        cond (decide ((List.length d_11) = (List.length d_11)))
          (
          some (o_0, (args_1, (ins_2, (t_9, (d_11, ()))))))
          (
          none))
        (
        none))

abbrev h_lodgelaw12_OpElements_1 : List Slot := [.data (.int .i64), .data (.sl (.int .i64)), .data (.sl (.st (.pair (.st (.pair (.sl (.int .i64)) .bool)) (.sl (.int .i64))))), .dead, .dead, .dead, .dead, .dead, .dead, .box [.d (.st (.pair (.st (.pair (.sl (.int .i64)) .bool)) (.sl (.int .i64))))], .dead, .dead, .dead, .dead, .dead, .data (.int .i64), .dead, .dead, .dead, .dead, .dead, .dead, .dead, .dead, .dead, .dead, .dead, .dead, .dead, .dead, .dead, .dead, .dead, .dead, .dead, .dead, .dead, .dead, .dead, .dead, .dead, .dead, .dead, .dead, .dead, .dead, .dead, .dead, .dead, .dead, .dead, .dead, .dead, .dead, .dead, .dead, .dead, .dead, .dead, .dead, .dead, .dead, .dead, .dead, .dead, .dead, .dead, .dead, .dead, .dead, .dead, .dead, .dead, .dead, .dead, .dead, .dead, .dead, .dead, .dead, .dead, .dead, .dead, .dead, .dead, .dead, .dead, .dead, .dead, .dead, .dead, .dead, .dead, .dead, .dead, .dead, .dead, .dead, .dead, .dead, .dead, .dead, .dead, .dead, .dead, .dead, .dead, .dead, .dead, .dead, .dead, .dead, .dead, .dead, .dead, .dead, .dead, .dead, .dead, .dead, .dead, .dead, .dead, .dead, .dead, .dead, .dead]
abbrev e_lodgelaw12_OpElements_1 : List (AX × List Slot) := [(AX.exit 2, [.data (.int .i64), .data (.sl (.int .i64)), .data (.sl (.st (.pair (.st (.pair (.sl (.int .i64)) .bool)) (.sl (.int .i64))))), .dead, .dead, .dead, .dead, .dead, .dead, .box [.d (.st (.pair (.st (.pair (.sl (.int .i64)) .bool)) (.sl (.int .i64))))], .dead, .dead, .dead, .dead, .dead, .dead, .dead, .dead, .dead, .dead, .dead, .dead, .dead, .dead, .dead, .dead, .dead, .dead, .dead, .dead, .dead, .dead, .dead, .dead, .dead, .dead, .dead, .dead, .dead, .dead, .dead, .dead, .dead, .dead, .dead, .dead, .dead, .dead, .dead, .dead, .dead, .dead, .dead, .dead, .dead, .dead, .dead, .dead, .dead, .dead, .dead, .dead, .dead, .dead, .dead, .dead, .dead, .dead, .dead, .dead, .dead, .dead, .dead, .dead, .dead, .dead, .dead, .dead, .dead, .dead, .dead, .dead, .dead, .dead, .dead, .dead, .dead, .dead, .dead, .dead, .dead, .dead, .dead, .dead, .dead, .dead, .dead, .dead, .dead, .dead, .dead, .dead, .dead, .dead, .dead, .dead, .dead, .dead, .dead, .dead, .dead, .dead, .dead, .dead, .dead, .dead, .dead, .dead, .dead, .dead, .dead, .dead, .dead, .dead, .dead, .dead, .dead]), (AX.ret, [.dead, .dead, .dead, .dead, .dead, .dead, .data .bool, .dead, .dead, .dead, .dead, .dead, .dead, .dead, .dead, .dead, .dead, .dead, .dead, .dead, .dead, .dead, .dead, .dead, .dead, .dead, .dead, .dead, .dead, .dead, .dead, .dead, .dead, .dead, .dead, .dead, .dead, .dead, .dead, .dead, .dead, .dead, .dead, .dead, .dead, .dead, .dead, .dead, .dead, .dead, .dead, .dead, .dead, .dead, .dead, .dead, .dead, .dead, .dead, .dead, .dead, .dead, .dead, .dead, .dead, .dead, .dead, .dead, .dead, .dead, .dead, .dead, .dead, .dead, .dead, .dead, .dead, .dead, .dead, .dead, .dead, .dead, .dead, .dead, .dead, .dead, .dead, .dead, .dead, .dead, .dead, .dead, .dead, .dead, .dead, .dead, .dead, .dead, .dead, .dead, .dead, .dead, .dead, .dead, .dead, .dead, .dead, .dead, .dead, .dead, .dead, .dead, .dead, .dead, .dead, .dead, .dead, .dead, .dead, .dead, .dead, .dead, .dead, .dead, .dead, .dead, .dead])]
def g_lodgelaw12_OpElements_1 (N : Nat) : Nat → Int → List Int → List (((List Int × Bool) × List Int)) → (((List Int × Bool) × List Int) × Unit) → Int → Option (Sum (Int × (List Int × (List (((List Int × Bool) × List Int)) × ((((List Int × Bool) × List Int) × Unit) × Unit)))) (Bool × Unit))
  | 0, _, _, _, _, _ => none
  | n + 1, o_0, args_1, ins_2, t_9, i_15 =>
    cond (decide (i_15 < (Nat.cast (List.length ((t_9).1).2) : Int)))
      (
      cond (decide (i_15 < (60 : Int)))
        (
        Option.bind (F_op_Element N o_0 args_1 i_15 ins_2) fun y10 =>
        cond (decide ((0 : Int) ≤ i_15))
          (
          cond (decide ((Int.toNat i_15) < (List.length ((t_9).1).2)))
            (
            cond (decide (@Ne Int (y10).1 (List.getD ((t_9).1).2 (Int.toNat i_15) (0 : Int))))
              (
              some (Sum.inr (false, ())))
              (
              (g_lodgelaw12_OpElements_1 N n o_0 args_1 ins_2 t_9 (wi64 (i_15 + (1 : Int))))))
            (
            none))
          (
          none))
        (
        some (Sum.inl (o_0, (args_1, (ins_2, (t_9, ())))))))
      (
      some (Sum.inl (o_0, (args_1, (ins_2, (t_9, ()))))))

def F_lodgelaw12_OpElements (N : Nat) (o_0 : Int) (args_1 : List Int) (ins_2 : List (((List Int × Bool) × List Int))) : Option (Bool × Unit) :=
  Option.bind (F_lodgelaw12_first N) fun y0 =>
  cond (Bool.not (y0).1)
    (
    some (false, ()))
    (
    Option.bind (F_lodgelaw12_light N o_0 args_1 ins_2) fun y1 =>
    cond (Bool.not (y1).1)
      (
      some y0)
      (
      cond (Bool.not (y0).1)
        (
        some y0)
        (
        Option.bind (F_lodgeref_Tensors N ins_2) fun y2 =>
        Option.bind (F_op_Apply N o_0 args_1 ins_2) fun y3 =>
        cond (decide (((0 : Nat) + (List.length (y2).1)) ≤ (List.length (y2).1)))
          (
          Option.bind (F_lodgeref_SameTensors N ins_2 (List.take (List.length (y2).1) (y2).1)) fun y4 =>
          cond (Bool.not (y4).1)
            (
            some (false, ()))
            (
            cond (Bool.not (Go.Eng.Er.isNil ((y3).2).1))
              (
              cond (decide ((Nat.cast (List.length ((((y3).1).2).2).1) : Int) = (0 : Int)))
                (
                Option.bind (F_op_Element N o_0 args_1 (0 : Int) ins_2) fun y5 =>
                some ((decide ((y5).1 = (0 : Int))), ()))
                (
                some (false, ())))
              (
              cond (decide ((List.length ((((y3).1).2).2).1) = (List.length ((((y3).1).2).2).1)))
                (
                Option.bind (g_lodgelaw12_OpElements_0 N N o_0 args_1 ins_2 (y3).1 ([] : List ((List Int) × Bool)) (0 : Int)) fun y6 =>
                cond (decide (((0 : Nat) + (List.length (((((y6).2).2).2).2).1)) ≤ (List.length (((((y6).2).2).2).2).1)))
                  (
                  Option.bind (F_op_Result N (y6).1 ((y6).2).1 (List.take (List.length (((((y6).2).2).2).2).1) (((((y6).2).2).2).2).1)) fun y7 =>
                  cond (Bool.not (Go.Eng.Er.isNil ((y7).2).1))
                    (
                    some (false, ()))
                    (
                    cond (decide (((0 : Nat) + (List.length (((((((y6).2).2).2).1).2).2).1)) ≤ (List.length (((((((y6).2).2).2).1).2).2).1)))
                      (
                      Option.bind (F_tens_Valid N (((((((y6).2).2).2).1).1, ((((((y6).2).2).2).1).2).1), (List.take (List.length (((((((y6).2).2).2).1).2).2).1) (((((((y6).2).2).2).1).2).2).1))) fun y8 =>
                      cond (Bool.not (Go.Eng.Er.isNil (y8).1))
                        (
                        some (false, ()))
                        (
                        Option.bind (F_lodgeref_SameDesc N (y7).1 ((((((y6).2).2).2).1).1, ((((((y6).2).2).2).1).2).1)) fun y9 =>
                        cond (Bool.not (y9).1)
                          (
                          some (false, ()))
                          (
                          cond (decide (((0 : Nat) + (List.length (((((((y6).2).2).2).1).2).2).1)) ≤ (List.length (((((((y6).2).2).2).1).2).2).1)))
                            (
                            cond (decide (((0 : Nat) + (List.length (((((((y6).2).2).2).1).2).2).1)) ≤ (List.length (((((((y6).2).2).2).1).2).2).1)))
                              (
                              Option.bind (g_lodgelaw12_OpElements_1 N N (y6).1 ((y6).2).1 (((y6).2).2).1 ((((((((y6).2).2).2).1).1, ((((((y6).2).2).2).1).2).1), (List.take (List.length (((((((y6).2).2).2).1).2).2).1) (((((((y6).2).2).2).1).2).2).1)), ()) (0 : Int)) fun y10 =>
                              Sum.elim (fun y11 =>
                                Option.bind (F_op_Element N (y11).1 ((y11).2).1 (-(1 : Int)) (((y11).2).2).1) fun y12 =>
                                cond (decide ((y12).1 = (0 : Int)))
                                  (
                                  Option.bind (F_op_Element N (y11).1 ((y11).2).1 (Nat.cast (List.length ((((((y11).2).2).2).1).1).2) : Int) (((y11).2).2).1) fun y13 =>
                                  some ((decide ((y13).1 = (0 : Int))), ()))
                                  (
                                  some (false, ())))
                                (fun y14 =>
                                some y14) y10)
                              (
                              none))
                            (
                            none))))
                      (
                      none)))
                  (
                  none))
                (
                none))))
          (
          none))))

abbrev c_lodgelaw12_OpElements (N : Nat) : CallSpec := ⟨8, ps_lodgelaw12_OpElements, rs_lodgelaw12_OpElements, fun x => F_lodgelaw12_OpElements N x.1 x.2.1 x.2.2.1⟩
abbrev l_lodgelaw12_OpElements_1 (N : Nat) : LoopSpec := ⟨1, h_lodgelaw12_OpElements_1, e_lodgelaw12_OpElements_1, fun x => g_lodgelaw12_OpElements_1 N N x.1 x.2.1 x.2.2.1 x.2.2.2.1 x.2.2.2.2.1⟩
abbrev l_lodgelaw12_OpElements_0 (N : Nat) : LoopSpec := ⟨0, h_lodgelaw12_OpElements_0, e_lodgelaw12_OpElements_0, fun x => g_lodgelaw12_OpElements_0 N N x.1 x.2.1 x.2.2.1 x.2.2.2.1 x.2.2.2.2.1 x.2.2.2.2.2.1⟩

theorem cs_lodgelaw12_OpElements_ok (S : Nat → Addr) (N : Nat) : CallsOK Go.Proofs.Tryd.prog E S (cs_lodgelaw12_OpElements N) :=
  .cons (F_op_Result_ok S N) (.cons (F_lodgelaw12_first_ok S N) (.cons (F_tens_Valid_ok S N) (.cons (F_op_Apply_ok S N) (.cons (F_lodgeref_SameDesc_ok S N) (.cons (F_lodgelaw12_light_ok S N) (.cons (F_lodgeref_Tensors_ok S N) (.cons (F_lodgeref_SameTensors_ok S N) (.cons (F_op_Element_ok S N) (.nil)))))))))
noncomputable abbrev b_lodgelaw12_OpElements_1 : Code := (loopsOf b_lodgelaw12_OpElements).getD 1 .skip
theorem g_lodgelaw12_OpElements_1_ok (S : Nat → Addr) (N : Nat) : ∀ n x y, (fun (x : Val (slotsTy h_lodgelaw12_OpElements_1)) => g_lodgelaw12_OpElements_1 N n x.1 x.2.1 x.2.2.1 x.2.2.2.1 x.2.2.2.2.1) x = some y → LoopCon Go.Proofs.Tryd.prog E S b_lodgelaw12_OpElements_1 (encSlots h_lodgelaw12_OpElements_1 x) (encEx e_lodgelaw12_OpElements_1 y).1 (encEx e_lodgelaw12_OpElements_1 y).2 :=
  loop_spec E_ok mixed (cs_lodgelaw12_OpElements_ok S N) (all := loopsOf b_lodgelaw12_OpElements) (ls := []) (.nil) (i := 1) (by kernel_rfl) (inner_of (by kernel_rfl)) (head := h_lodgelaw12_OpElements_1) (ex := e_lodgelaw12_OpElements_1) (fun n (x : Val (slotsTy h_lodgelaw12_OpElements_1)) => g_lodgelaw12_OpElements_1 N n x.1 x.2.1 x.2.2.1 x.2.2.2.1 x.2.2.2.2.1) (fun _ => rfl) (fun n x => by kernel_rfl)
noncomputable abbrev b_lodgelaw12_OpElements_0 : Code := (loopsOf b_lodgelaw12_OpElements).getD 0 .skip
theorem g_lodgelaw12_OpElements_0_ok (S : Nat → Addr) (N : Nat) : ∀ n x y, (fun (x : Val (slotsTy h_lodgelaw12_OpElements_0)) => g_lodgelaw12_OpElements_0 N n x.1 x.2.1 x.2.2.1 x.2.2.2.1 x.2.2.2.2.1 x.2.2.2.2.2.1) x = some y → LoopCon Go.Proofs.Tryd.prog E S b_lodgelaw12_OpElements_0 (encSlots h_lodgelaw12_OpElements_0 x) (encEx e_lodgelaw12_OpElements_0 y).1 (encEx e_lodgelaw12_OpElements_0 y).2 :=
  loop_spec E_ok mixed (cs_lodgelaw12_OpElements_ok S N) (all := loopsOf b_lodgelaw12_OpElements) (ls := []) (.nil) (i := 0) (by kernel_rfl) (inner_of (by kernel_rfl)) (head := h_lodgelaw12_OpElements_0) (ex := e_lodgelaw12_OpElements_0) (fun n (x : Val (slotsTy h_lodgelaw12_OpElements_0)) => g_lodgelaw12_OpElements_0 N n x.1 x.2.1 x.2.2.1 x.2.2.2.1 x.2.2.2.2.1 x.2.2.2.2.2.1) (fun _ => rfl) (fun n x => by kernel_rfl)
theorem F_lodgelaw12_OpElements_ok (S : Nat → Addr) (N : Nat) : ∀ x y, (c_lodgelaw12_OpElements N).g x = some y → FCon Go.Proofs.Tryd.prog E S 8 ps_lodgelaw12_OpElements rs_lodgelaw12_OpElements x y := by
  intro x y h
  exact fun_spec E_ok mixed (cs_lodgelaw12_OpElements_ok S N) (f := 8) (fi := ⟨b_lodgelaw12_OpElements, 127, Go.Proofs.Tryd.f8.results.toList⟩) (by kernel_rfl) (ls := [l_lodgelaw12_OpElements_1 N, l_lodgelaw12_OpElements_0 N]) (.cons (by kernel_rfl) (g_lodgelaw12_OpElements_1_ok S N N) (.cons (by kernel_rfl) (g_lodgelaw12_OpElements_0_ok S N N) (.nil))) (by kernel_rfl) (ps := ps_lodgelaw12_OpElements) (rs := rs_lodgelaw12_OpElements) (Eq.trans (b := F_lodgelaw12_OpElements N x.1 x.2.1 x.2.2.1) (by kernel_rfl) h)

end Go.Proofs.YtnblnlanicpagaaDoor.Lg
