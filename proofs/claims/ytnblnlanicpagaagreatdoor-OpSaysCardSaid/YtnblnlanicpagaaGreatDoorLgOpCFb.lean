/-
  The functions of the seat's program, as plain functions.
-/
import Derived.Test.YtnblnlanicpagaaGreatDoorLgOpCFa
namespace Go.Proofs.YtnblnlanicpagaaGreatDoor.Lg
open Go Go.Eng Go.Proofs
set_option maxRecDepth 100000

/-! lodge/elem.in -/

abbrev ps_elem_in : List Ty := [(.int .i64), (.int .i64), (.int .i64)]
abbrev rs_elem_in : List Slot := [.data .bool]
abbrev cs_elem_in (N : Nat) : List CallSpec := []
noncomputable abbrev b_elem_in : Code := (Go.Proofs.Tryz.f102.body).getD .skip

def F_elem_in (N : Nat) (n_0 : Int) (from_1 : Int) (to_2 : Int) : Option (Bool × Unit) :=
  cond (decide (from_1 ≤ n_0))
    (
    some ((decide (n_0 ≤ to_2)), ()))
    (
    some (false, ()))

abbrev c_elem_in (N : Nat) : CallSpec := ⟨102, ps_elem_in, rs_elem_in, fun x => F_elem_in N x.1 x.2.1 x.2.2.1⟩

theorem cs_elem_in_ok (S : Nat → Addr) (N : Nat) : CallsOK Go.Proofs.Tryz.prog E S (cs_elem_in N) :=
  .nil
theorem F_elem_in_ok (S : Nat → Addr) (N : Nat) : ∀ x y, (c_elem_in N).g x = some y → FCon Go.Proofs.Tryz.prog E S 102 ps_elem_in rs_elem_in x y := by
  intro x y h
  exact fun_spec E_ok mixed (cs_elem_in_ok S N) (f := 102) (fi := ⟨b_elem_in, 15, Go.Proofs.Tryz.f102.results.toList⟩) (by kernel_rfl) (ls := []) (.nil) (by kernel_rfl) (ps := ps_elem_in) (rs := rs_elem_in) (Eq.trans (b := F_elem_in N x.1 x.2.1 x.2.2.1) (by kernel_rfl) h)

/-! lodge/elem.of -/

abbrev ps_elem_of : List Ty := [(.int .i64), .bool]
abbrev rs_elem_of : List Slot := [.data .bool]
abbrev cs_elem_of (N : Nat) : List CallSpec := [c_elem_in N]
noncomputable abbrev b_elem_of : Code := (Go.Proofs.Tryz.f101.body).getD .skip

def F_elem_of (N : Nat) (n_0 : Int) (wide_1 : Bool) : Option (Bool × Unit) :=
  cond wide_1
    (
    Option.bind (F_elem_in N n_0 (-(2147483648 : Int)) (2147483647 : Int)) fun y0 =>
    some y0)
    (
    Option.bind (F_elem_in N n_0 (-(128 : Int)) (127 : Int)) fun y1 =>
    some y1)

abbrev c_elem_of (N : Nat) : CallSpec := ⟨101, ps_elem_of, rs_elem_of, fun x => F_elem_of N x.1 x.2.1⟩

theorem cs_elem_of_ok (S : Nat → Addr) (N : Nat) : CallsOK Go.Proofs.Tryz.prog E S (cs_elem_of N) :=
  .cons (F_elem_in_ok S N) (.nil)
theorem F_elem_of_ok (S : Nat → Addr) (N : Nat) : ∀ x y, (c_elem_of N).g x = some y → FCon Go.Proofs.Tryz.prog E S 101 ps_elem_of rs_elem_of x y := by
  intro x y h
  exact fun_spec E_ok mixed (cs_elem_of_ok S N) (f := 101) (fi := ⟨b_elem_of, 10, Go.Proofs.Tryz.f101.results.toList⟩) (by kernel_rfl) (ls := []) (.nil) (by kernel_rfl) (ps := ps_elem_of) (rs := rs_elem_of) (Eq.trans (b := F_elem_of N x.1 x.2.1) (by kernel_rfl) h)

/-! lodge/elem.Result -/

abbrev ps_elem_Result : List Ty := [(.int .i64), (.sl (.int .i64)), (.sl (.st (.pair (.sl (.int .i64)) .bool)))]
abbrev rs_elem_Result : List Slot := [.ag [.sl (.int .i64), .d .bool], .data .err]
abbrev cs_elem_Result (N : Nat) : List CallSpec := [c_shape_Valid N, c_shape_Clone N, c_shape_Same N, c_elem_counts N, c_elem_in N, c_elem_of N]
noncomputable abbrev b_elem_Result : Code := (Go.Proofs.Tryz.f78.body).getD .skip

abbrev h_elem_Result_0 : List Slot := [.data (.int .i64), .data (.sl (.int .i64)), .data (.sl (.st (.pair (.sl (.int .i64)) .bool))), .dead, .dead, .dead, .box [.sl (.int .i64), .d .bool], .dead, .data (.int .i64), .dead, .dead, .dead, .dead, .dead, .dead, .dead, .dead, .dead, .dead, .dead, .dead, .dead, .dead, .dead, .dead, .dead, .dead, .dead, .dead, .dead, .dead, .dead, .dead, .dead, .dead, .dead, .dead, .dead, .dead, .dead, .data (.sl (.st (.pair (.sl (.int .i64)) .bool))), .data (.int .i64), .data (.int .i64), .dead, .dead, .dead, .dead, .dead, .dead, .dead, .dead, .dead, .dead, .dead, .dead, .dead, .dead, .dead, .dead, .dead, .dead, .dead, .dead, .dead, .dead, .dead, .dead, .dead, .dead, .dead, .dead, .dead, .dead, .dead, .dead, .dead, .dead, .dead, .dead, .dead, .dead, .dead, .dead, .dead, .dead, .dead, .dead, .dead, .dead, .dead, .dead, .dead, .dead, .dead, .dead, .dead, .dead, .dead, .dead, .dead, .dead, .dead, .dead, .dead, .dead, .dead, .dead, .dead, .dead, .dead, .dead, .dead, .dead, .dead, .dead, .dead, .dead, .dead, .dead, .dead, .dead, .dead, .dead, .dead, .dead, .dead, .dead, .dead, .dead, .dead, .dead, .dead, .dead, .dead, .dead, .dead, .dead, .dead, .dead, .dead, .dead, .dead, .dead, .dead, .dead, .dead]
abbrev e_elem_Result_0 : List (AX × List Slot) := [(AX.exit 0, [.data (.int .i64), .data (.sl (.int .i64)), .data (.sl (.st (.pair (.sl (.int .i64)) .bool))), .dead, .dead, .dead, .box [.sl (.int .i64), .d .bool], .dead, .data (.int .i64), .dead, .dead, .dead, .dead, .dead, .dead, .dead, .dead, .dead, .dead, .dead, .dead, .dead, .dead, .dead, .dead, .dead, .dead, .dead, .dead, .dead, .dead, .dead, .dead, .dead, .dead, .dead, .dead, .dead, .dead, .dead, .dead, .dead, .dead, .dead, .dead, .dead, .dead, .dead, .dead, .dead, .dead, .dead, .dead, .dead, .dead, .dead, .dead, .dead, .dead, .dead, .dead, .dead, .dead, .dead, .dead, .dead, .dead, .dead, .dead, .dead, .dead, .dead, .dead, .dead, .dead, .dead, .dead, .dead, .dead, .dead, .dead, .dead, .dead, .dead, .dead, .dead, .dead, .dead, .dead, .dead, .dead, .dead, .dead, .dead, .dead, .dead, .dead, .dead, .dead, .dead, .dead, .dead, .dead, .dead, .dead, .dead, .dead, .dead, .dead, .dead, .dead, .dead, .dead, .dead, .dead, .dead, .dead, .dead, .dead, .dead, .dead, .dead, .dead, .dead, .dead, .dead, .dead, .dead, .dead, .dead, .dead, .dead, .dead, .dead, .dead, .dead, .dead, .dead, .dead, .dead, .dead, .dead, .dead, .dead, .dead, .dead]), (AX.ret, [.dead, .dead, .dead, .dead, .dead, .dead, .box [.sl (.int .i64), .d .bool], .data .err, .dead, .dead, .dead, .dead, .dead, .dead, .dead, .dead, .dead, .dead, .dead, .dead, .dead, .dead, .dead, .dead, .dead, .dead, .dead, .dead, .dead, .dead, .dead, .dead, .dead, .dead, .dead, .dead, .dead, .dead, .dead, .dead, .dead, .dead, .dead, .dead, .dead, .dead, .dead, .dead, .dead, .dead, .dead, .dead, .dead, .dead, .dead, .dead, .dead, .dead, .dead, .dead, .dead, .dead, .dead, .dead, .dead, .dead, .dead, .dead, .dead, .dead, .dead, .dead, .dead, .dead, .dead, .dead, .dead, .dead, .dead, .dead, .dead, .dead, .dead, .dead, .dead, .dead, .dead, .dead, .dead, .dead, .dead, .dead, .dead, .dead, .dead, .dead, .dead, .dead, .dead, .dead, .dead, .dead, .dead, .dead, .dead, .dead, .dead, .dead, .dead, .dead, .dead, .dead, .dead, .dead, .dead, .dead, .dead, .dead, .dead, .dead, .dead, .dead, .dead, .dead, .dead, .dead, .dead, .dead, .dead, .dead, .dead, .dead, .dead, .dead, .dead, .dead, .dead, .dead, .dead, .dead, .dead, .dead, .dead, .dead, .dead, .dead])]
def g_elem_Result_0 (N : Nat) : Nat → Int → List Int → List ((List Int × Bool)) → (List Int × (Bool × Unit)) → Int → List ((List Int × Bool)) → Int → Int → Option (Sum (Int × (List Int × (List ((List Int × Bool)) × ((List Int × (Bool × Unit)) × (Int × Unit))))) ((List Int × (Bool × Unit)) × (Er × Unit)))
  | 0, _, _, _, _, _, _, _, _ => none
  | n + 1, op_0, args_1, ins_2, t_6, k_8, t_40, t_41, t_42 =>
    cond (decide (t_42 < t_41))
      (
      cond (decide ((0 : Int) ≤ t_42))
        (
        cond (decide ((Int.toNat t_42) < (List.length t_40)))
          (
          Option.bind (F_shape_Valid N (List.getD t_40 (Int.toNat t_42) (([] : List Int), false))) fun y3 =>
          cond (Bool.not (Go.Eng.Er.isNil (y3).1))
            (
            some (Sum.inr ((([] : List Int), (false, ())), y3)))
            (
            cond (decide ((List.length (t_6).1) = (List.length (t_6).1)))
              (
              (g_elem_Result_0 N n op_0 args_1 ins_2 t_6 k_8 t_40 t_41 (wi64 (t_42 + (1 : Int)))))
              (
              none)))
          (
          none))
        (
        none))
      (
      cond (decide ((List.length (t_6).1) = (List.length (t_6).1)))
        (
        some (Sum.inl (op_0, (args_1, (ins_2, (t_6, (k_8, ())))))))
        (
        none))

abbrev j_elem_Result : Joins := [(15, [(AX.normal, [.dead, .dead, .dead, .dead, .dead, .dead, .box [.sl (.int .i64), .d .bool], .dead, .dead, .dead, .dead, .dead, .dead, .dead, .box [.d (.st (.pair (.sl (.int .i64)) .bool))], .data .bool, .data .bool, .dead, .dead, .dead, .dead, .dead, .dead, .dead, .dead, .dead, .dead, .dead, .dead, .dead, .dead, .dead, .dead, .dead, .dead, .dead, .dead, .dead, .dead, .dead, .dead, .dead, .dead, .dead, .dead, .dead, .dead, .dead, .dead, .dead, .dead, .dead, .dead, .dead, .dead, .dead, .dead, .dead, .dead, .dead, .dead, .dead, .dead, .dead, .dead, .dead, .dead, .dead, .dead, .dead, .dead, .dead, .dead, .dead, .dead, .dead, .dead, .dead, .dead, .dead, .dead, .dead, .dead, .dead, .dead, .dead, .dead, .dead, .dead, .dead, .dead, .dead, .dead, .dead, .dead, .dead, .dead, .dead, .dead, .dead, .dead, .dead, .dead, .dead, .dead, .dead, .dead, .dead, .dead, .dead, .dead, .dead, .dead, .dead, .dead, .dead, .dead, .dead, .dead, .dead, .dead, .dead, .dead, .dead, .dead, .dead, .dead, .dead, .dead, .dead, .dead, .dead, .dead, .dead, .dead, .dead, .dead, .dead, .dead, .dead, .dead, .dead, .dead, .dead, .dead, .dead])]),
  (12, [(AX.normal, [.data (.int .i64), .data (.sl (.int .i64)), .dead, .dead, .dead, .dead, .box [.sl (.int .i64), .d .bool], .dead, .dead, .dead, .dead, .dead, .dead, .dead, .box [.d (.st (.pair (.sl (.int .i64)) .bool))], .dead, .dead, .dead, .dead, .dead, .dead, .dead, .dead, .dead, .dead, .dead, .dead, .dead, .dead, .dead, .dead, .dead, .dead, .dead, .dead, .dead, .dead, .dead, .dead, .dead, .dead, .dead, .dead, .dead, .dead, .dead, .dead, .dead, .dead, .dead, .dead, .dead, .dead, .dead, .dead, .dead, .dead, .dead, .dead, .dead, .dead, .dead, .dead, .dead, .dead, .dead, .dead, .dead, .dead, .dead, .dead, .dead, .dead, .dead, .dead, .dead, .dead, .dead, .dead, .dead, .dead, .dead, .data .bool, .dead, .dead, .dead, .dead, .dead, .dead, .dead, .dead, .dead, .dead, .dead, .dead, .dead, .dead, .dead, .dead, .dead, .dead, .dead, .dead, .dead, .dead, .dead, .dead, .dead, .dead, .dead, .dead, .dead, .dead, .dead, .dead, .dead, .dead, .dead, .dead, .dead, .dead, .dead, .dead, .dead, .dead, .dead, .dead, .dead, .dead, .dead, .dead, .dead, .dead, .dead, .dead, .dead, .dead, .dead, .dead, .dead, .dead, .dead, .dead, .dead, .dead, .dead])]),
  (6, [(AX.normal, [.data (.int .i64), .data (.sl (.int .i64)), .data (.sl (.st (.pair (.sl (.int .i64)) .bool))), .dead, .dead, .dead, .box [.sl (.int .i64), .d .bool], .dead, .data (.int .i64), .dead, .dead, .dead, .dead, .dead, .dead, .dead, .dead, .dead, .dead, .dead, .dead, .dead, .dead, .dead, .dead, .dead, .dead, .dead, .dead, .dead, .dead, .dead, .dead, .dead, .dead, .dead, .dead, .data .bool, .dead, .dead, .dead, .dead, .dead, .dead, .dead, .dead, .dead, .dead, .dead, .dead, .dead, .dead, .dead, .dead, .dead, .dead, .dead, .dead, .dead, .dead, .dead, .dead, .dead, .dead, .dead, .dead, .dead, .dead, .dead, .dead, .dead, .dead, .dead, .dead, .dead, .dead, .dead, .dead, .dead, .dead, .dead, .dead, .dead, .dead, .dead, .dead, .dead, .dead, .dead, .dead, .dead, .dead, .dead, .dead, .dead, .dead, .dead, .dead, .dead, .dead, .dead, .dead, .dead, .dead, .dead, .dead, .dead, .dead, .dead, .dead, .dead, .dead, .dead, .dead, .dead, .dead, .dead, .dead, .dead, .dead, .dead, .dead, .dead, .dead, .dead, .dead, .dead, .dead, .dead, .dead, .dead, .dead, .dead, .dead, .dead, .dead, .dead, .dead, .dead, .dead, .dead, .dead, .dead, .dead, .dead, .dead])])]
def F_elem_Result (N : Nat) (op_0 : Int) (args_1 : List Int) (ins_2 : List ((List Int × Bool))) : Option ((List Int × (Bool × Unit)) × (Er × Unit)) :=
  Option.bind (F_elem_counts N op_0) fun y0 =>
  cond (Bool.not (((y0).2).2).1)
    (
    some ((([] : List Int), (false, ())), ((Go.Eng.Er.s ErrKind), ())))
    (
    Option.bind (
        cond (decide (@Ne Int (Nat.cast (List.length args_1) : Int) ((y0).2).1))
          (
          some (op_0, (args_1, (ins_2, ((([] : List Int), (false, ())), ((y0).1, (true, ())))))))
          (
          some (op_0, (args_1, (ins_2, ((([] : List Int), (false, ())), ((y0).1, ((decide (@Ne Int (Nat.cast (List.length ins_2) : Int) (y0).1)), ())))))))) fun y1 =>
    cond ((((((y1).2).2).2).2).2).1
      (
      some ((([] : List Int), (false, ())), ((Go.Eng.Er.s ErrShape), ())))
      (
      cond (decide ((List.length (((((y1).2).2).2).1).1) = (List.length (((((y1).2).2).2).1).1)))
        (
        Option.bind (g_elem_Result_0 N N (y1).1 ((y1).2).1 (((y1).2).2).1 ((((y1).2).2).2).1 (((((y1).2).2).2).2).1 (((y1).2).2).1 (Nat.cast (List.length (((y1).2).2).1) : Int) (0 : Int)) fun y2 =>
        Sum.elim (fun y3 =>
          cond (decide (0 < (List.length (((y3).2).2).1)))
            (
            Option.bind (
                cond (decide ((((((y3).2).2).2).2).1 = (2 : Int)))
                  (
                  cond (decide (1 < (List.length (((y3).2).2).1)))
                    (
                    Option.bind (F_shape_Same N (List.getD (((y3).2).2).1 0 (([] : List Int), false)) (List.getD (((y3).2).2).1 1 (([] : List Int), false))) fun y4 =>
                    cond (Bool.not (y4).1)
                      (
                      cond (decide ((List.length (((((y3).2).2).2).1).1) = (List.length (((((y3).2).2).2).1).1)))
                        (
                        some ((y3).1, (((y3).2).1, (((((y3).2).2).2).1, (((List.getD (((y3).2).2).1 0 (([] : List Int), false)), ()), (true, ()))))))
                        (
                        none))
                      (
                      cond (decide ((y3).1 = (10 : Int)))
                        (
                        cond (Bool.not ((List.getD (((y3).2).2).1 0 (([] : List Int), false))).2)
                          (
                          cond (decide ((List.length (((((y3).2).2).2).1).1) = (List.length (((((y3).2).2).2).1).1)))
                            (
                            some ((y3).1, (((y3).2).1, (((((y3).2).2).2).1, (((List.getD (((y3).2).2).1 0 (([] : List Int), false)), ()), (true, ()))))))
                            (
                            none))
                          (
                          cond (decide ((y3).1 = (11 : Int)))
                            (
                            cond (decide ((List.length (((((y3).2).2).2).1).1) = (List.length (((((y3).2).2).2).1).1)))
                              (
                              some ((y3).1, (((y3).2).1, (((((y3).2).2).2).1, (((List.getD (((y3).2).2).1 0 (([] : List Int), false)), ()), (((List.getD (((y3).2).2).1 0 (([] : List Int), false))).2, ()))))))
                              (
                              none))
                            (
                            cond (decide ((List.length (((((y3).2).2).2).1).1) = (List.length (((((y3).2).2).2).1).1)))
                              (
                              some ((y3).1, (((y3).2).1, (((((y3).2).2).2).1, (((List.getD (((y3).2).2).1 0 (([] : List Int), false)), ()), (false, ()))))))
                              (
                              none))))
                        (
                        cond (decide ((y3).1 = (11 : Int)))
                          (
                          cond (decide ((List.length (((((y3).2).2).2).1).1) = (List.length (((((y3).2).2).2).1).1)))
                            (
                            some ((y3).1, (((y3).2).1, (((((y3).2).2).2).1, (((List.getD (((y3).2).2).1 0 (([] : List Int), false)), ()), (((List.getD (((y3).2).2).1 0 (([] : List Int), false))).2, ()))))))
                            (
                            none))
                          (
                          cond (decide ((List.length (((((y3).2).2).2).1).1) = (List.length (((((y3).2).2).2).1).1)))
                            (
                            some ((y3).1, (((y3).2).1, (((((y3).2).2).2).1, (((List.getD (((y3).2).2).1 0 (([] : List Int), false)), ()), (false, ()))))))
                            (
                            none)))))
                    (
                    none))
                  (
                  cond (decide ((y3).1 = (10 : Int)))
                    (
                    cond (Bool.not ((List.getD (((y3).2).2).1 0 (([] : List Int), false))).2)
                      (
                      cond (decide ((List.length (((((y3).2).2).2).1).1) = (List.length (((((y3).2).2).2).1).1)))
                        (
                        some ((y3).1, (((y3).2).1, (((((y3).2).2).2).1, (((List.getD (((y3).2).2).1 0 (([] : List Int), false)), ()), (true, ()))))))
                        (
                        none))
                      (
                      cond (decide ((y3).1 = (11 : Int)))
                        (
                        cond (decide ((List.length (((((y3).2).2).2).1).1) = (List.length (((((y3).2).2).2).1).1)))
                          (
                          some ((y3).1, (((y3).2).1, (((((y3).2).2).2).1, (((List.getD (((y3).2).2).1 0 (([] : List Int), false)), ()), (((List.getD (((y3).2).2).1 0 (([] : List Int), false))).2, ()))))))
                          (
                          none))
                        (
                        cond (decide ((List.length (((((y3).2).2).2).1).1) = (List.length (((((y3).2).2).2).1).1)))
                          (
                          some ((y3).1, (((y3).2).1, (((((y3).2).2).2).1, (((List.getD (((y3).2).2).1 0 (([] : List Int), false)), ()), (false, ()))))))
                          (
                          none))))
                    (
                    cond (decide ((y3).1 = (11 : Int)))
                      (
                      cond (decide ((List.length (((((y3).2).2).2).1).1) = (List.length (((((y3).2).2).2).1).1)))
                        (
                        some ((y3).1, (((y3).2).1, (((((y3).2).2).2).1, (((List.getD (((y3).2).2).1 0 (([] : List Int), false)), ()), (((List.getD (((y3).2).2).1 0 (([] : List Int), false))).2, ()))))))
                        (
                        none))
                      (
                      cond (decide ((List.length (((((y3).2).2).2).1).1) = (List.length (((((y3).2).2).2).1).1)))
                        (
                        some ((y3).1, (((y3).2).1, (((((y3).2).2).2).1, (((List.getD (((y3).2).2).1 0 (([] : List Int), false)), ()), (false, ()))))))
                        (
                        none))))) fun y5 =>
            cond (((((y5).2).2).2).2).1
              (
              some ((([] : List Int), (false, ())), ((Go.Eng.Er.s ErrShape), ())))
              (
              Option.bind (
                  cond (decide ((y5).1 = (9 : Int)))
                    (
                    cond (decide (0 < (List.length ((y5).2).1)))
                      (
                      cond (decide (1 < (List.length ((y5).2).1)))
                        (
                        cond (decide ((List.getD ((y5).2).1 0 (0 : Int)) ≤ (List.getD ((y5).2).1 1 (0 : Int))))
                          (
                          cond (decide (0 < (List.length ((y5).2).1)))
                            (
                            Option.bind (F_elem_of N (List.getD ((y5).2).1 0 (0 : Int)) ((((((y5).2).2).2).1).1).2) fun y6 =>
                            cond (y6).1
                              (
                              cond (decide (1 < (List.length ((y5).2).1)))
                                (
                                Option.bind (F_elem_of N (List.getD ((y5).2).1 1 (0 : Int)) ((((((y5).2).2).2).1).1).2) fun y7 =>
                                cond (decide ((List.length ((((y5).2).2).1).1) = (List.length ((((y5).2).2).1).1)))
                                  (
                                  some ((((y5).2).2).1, (((((y5).2).2).2).1, ((y7).1, (((((((y5).2).2).2).1).1).2, ())))))
                                  (
                                  none))
                                (
                                none))
                              (
                              cond (decide ((List.length ((((y5).2).2).1).1) = (List.length ((((y5).2).2).1).1)))
                                (
                                some ((((y5).2).2).1, (((((y5).2).2).2).1, (false, (((((((y5).2).2).2).1).1).2, ())))))
                                (
                                none)))
                            (
                            none))
                          (
                          cond (decide ((List.length ((((y5).2).2).1).1) = (List.length ((((y5).2).2).1).1)))
                            (
                            some ((((y5).2).2).1, (((((y5).2).2).2).1, (false, (((((((y5).2).2).2).1).1).2, ())))))
                            (
                            none)))
                        (
                        none))
                      (
                      none))
                    (
                    cond (decide ((y5).1 = (10 : Int)))
                      (
                      cond (decide (0 < (List.length ((y5).2).1)))
                        (
                        Option.bind (F_elem_in N (List.getD ((y5).2).1 0 (0 : Int)) (0 : Int) (2147483647 : Int)) fun y8 =>
                        cond (y8).1
                          (
                          cond (decide (1 < (List.length ((y5).2).1)))
                            (
                            Option.bind (F_elem_in N (List.getD ((y5).2).1 1 (0 : Int)) (0 : Int) (62 : Int)) fun y9 =>
                            cond (y9).1
                              (
                              cond (decide (2 < (List.length ((y5).2).1)))
                                (
                                Option.bind (F_elem_of N (List.getD ((y5).2).1 2 (0 : Int)) false) fun y10 =>
                                cond (decide ((List.length ((((y5).2).2).1).1) = (List.length ((((y5).2).2).1).1)))
                                  (
                                  some ((((y5).2).2).1, (((((y5).2).2).2).1, ((y10).1, (false, ())))))
                                  (
                                  none))
                                (
                                none))
                              (
                              cond (decide ((List.length ((((y5).2).2).1).1) = (List.length ((((y5).2).2).1).1)))
                                (
                                some ((((y5).2).2).1, (((((y5).2).2).2).1, (false, (false, ())))))
                                (
                                none)))
                            (
                            none))
                          (
                          cond (decide ((List.length ((((y5).2).2).1).1) = (List.length ((((y5).2).2).1).1)))
                            (
                            some ((((y5).2).2).1, (((((y5).2).2).2).1, (false, (false, ())))))
                            (
                            none)))
                        (
                        none))
                      (
                      cond (decide ((y5).1 = (11 : Int)))
                        (
                        cond (decide (0 < (List.length ((y5).2).1)))
                          (
                          Option.bind (F_elem_of N (List.getD ((y5).2).1 0 (0 : Int)) false) fun y11 =>
                          cond (decide ((List.length ((((y5).2).2).1).1) = (List.length ((((y5).2).2).1).1)))
                            (
                            some ((((y5).2).2).1, (((((y5).2).2).2).1, ((y11).1, (true, ())))))
                            (
                            none))
                          (
                          none))
                        (
                        cond (decide ((List.length ((((y5).2).2).1).1) = (List.length ((((y5).2).2).1).1)))
                          (
                          some ((((y5).2).2).1, (((((y5).2).2).2).1, (true, (((((((y5).2).2).2).1).1).2, ())))))
                          (
                          none))))) fun y12 =>
              cond (Bool.not (((y12).2).2).1)
                (
                some ((([] : List Int), (false, ())), ((Go.Eng.Er.s ErrRange), ())))
                (
                Option.bind (F_shape_Clone N (((y12).2).1).1) fun y13 =>
                cond (decide ((List.length ((y13).1).1) = (List.length ((y13).1).1)))
                  (
                  some ((((y13).1).1, (((y12).2).2).2), (Go.Eng.Er.nil, ())))
                  (
                  none))))
            (
            none))
          (fun y14 =>
          cond (decide ((List.length ((y14).1).1) = (List.length ((y14).1).1)))
            (
            some y14)
            (
            none)) y2)
        (
        none)))

abbrev c_elem_Result (N : Nat) : CallSpec := ⟨78, ps_elem_Result, rs_elem_Result, fun x => F_elem_Result N x.1 x.2.1 x.2.2.1⟩
abbrev l_elem_Result_0 (N : Nat) : LoopSpec := ⟨0, h_elem_Result_0, e_elem_Result_0, fun x => g_elem_Result_0 N N x.1 x.2.1 x.2.2.1 x.2.2.2.1 x.2.2.2.2.1 x.2.2.2.2.2.1 x.2.2.2.2.2.2.1 x.2.2.2.2.2.2.2.1⟩

theorem cs_elem_Result_ok (S : Nat → Addr) (N : Nat) : CallsOK Go.Proofs.Tryz.prog E S (cs_elem_Result N) :=
  .cons (F_shape_Valid_ok S N) (.cons (F_shape_Clone_ok S N) (.cons (F_shape_Same_ok S N) (.cons (F_elem_counts_ok S N) (.cons (F_elem_in_ok S N) (.cons (F_elem_of_ok S N) (.nil))))))
noncomputable abbrev b_elem_Result_0 : Code := (loopsOf b_elem_Result).getD 0 .skip
theorem g_elem_Result_0_ok (S : Nat → Addr) (N : Nat) : ∀ n x y, (fun (x : Val (slotsTy h_elem_Result_0)) => g_elem_Result_0 N n x.1 x.2.1 x.2.2.1 x.2.2.2.1 x.2.2.2.2.1 x.2.2.2.2.2.1 x.2.2.2.2.2.2.1 x.2.2.2.2.2.2.2.1) x = some y → LoopCon Go.Proofs.Tryz.prog E S b_elem_Result_0 (encSlots h_elem_Result_0 x) (encEx e_elem_Result_0 y).1 (encEx e_elem_Result_0 y).2 :=
  loop_spec E_ok mixed (cs_elem_Result_ok S N) (all := loopsOf b_elem_Result) (ls := []) (.nil) (i := 0) (by kernel_rfl) (inner_of (by kernel_rfl)) (head := h_elem_Result_0) (ex := e_elem_Result_0) (fun n (x : Val (slotsTy h_elem_Result_0)) => g_elem_Result_0 N n x.1 x.2.1 x.2.2.1 x.2.2.2.1 x.2.2.2.2.1 x.2.2.2.2.2.1 x.2.2.2.2.2.2.1 x.2.2.2.2.2.2.2.1) (fun _ => rfl) (fun n x => by kernel_rfl)
theorem F_elem_Result_ok (S : Nat → Addr) (N : Nat) : ∀ x y, (c_elem_Result N).g x = some y → FCon Go.Proofs.Tryz.prog E S 78 ps_elem_Result rs_elem_Result x y := by
  intro x y h
  exact fun_specJ E_ok mixed (cs_elem_Result_ok S N) (f := 78) (fi := ⟨b_elem_Result, 146, Go.Proofs.Tryz.f78.results.toList⟩) (by kernel_rfl) (ls := [l_elem_Result_0 N]) (.cons (by kernel_rfl) (g_elem_Result_0_ok S N N) (.nil)) (js := j_elem_Result) (by kernel_rfl) (ps := ps_elem_Result) (rs := rs_elem_Result) (Eq.trans (b := F_elem_Result N x.1 x.2.1 x.2.2.1) (by kernel_rfl) h)

/-! lodge/op.Result -/

abbrev ps_op_Result : List Ty := [(.int .i64), (.sl (.int .i64)), (.sl (.st (.pair (.sl (.int .i64)) .bool)))]
abbrev rs_op_Result : List Slot := [.data (.st (.pair (.sl (.int .i64)) .bool)), .data .err]
abbrev cs_op_Result (N : Nat) : List CallSpec := [c_op_Known N, c_op_Ins N, c_op_Args N, c_mat_Result N, c_conv_Result N, c_pool_Result N, c_soft_Result N, c_op_reshape N, c_op_turn N, c_elem_Result N]
noncomputable abbrev b_op_Result : Code := (Go.Proofs.Tryz.f44.body).getD .skip

abbrev j_op_Result : Joins := [(16, [(AX.normal, [.data (.int .i64), .data (.sl (.int .i64)), .data (.sl (.st (.pair (.sl (.int .i64)) .bool))), .dead, .dead, .dead, .box [.sl (.int .i64), .d .bool], .dead, .dead, .dead, .dead, .dead, .dead, .dead, .dead, .dead, .dead, .dead, .dead, .dead, .dead, .dead, .dead, .dead, .dead, .dead, .dead, .dead, .dead, .dead, .dead, .data (.int .i64), .dead, .dead, .dead, .dead, .dead, .dead, .dead, .dead, .dead, .dead, .dead, .dead, .dead, .dead, .dead, .dead, .dead, .dead, .dead, .dead, .dead, .dead, .dead, .dead, .dead, .dead, .dead, .dead, .dead, .dead, .dead, .dead, .dead, .dead, .dead, .dead, .dead, .dead, .dead, .data .bool, .dead, .dead, .dead, .dead, .dead, .dead, .dead, .dead, .dead, .dead, .dead, .dead, .dead, .dead, .dead, .dead, .dead, .dead, .dead, .dead, .dead, .dead, .dead, .dead, .dead, .dead, .dead, .dead, .dead, .dead, .dead, .dead])]),
  (13, [(AX.normal, [.data (.int .i64), .data (.sl (.int .i64)), .data (.sl (.st (.pair (.sl (.int .i64)) .bool))), .dead, .dead, .dead, .box [.sl (.int .i64), .d .bool], .dead, .dead, .dead, .dead, .dead, .dead, .dead, .dead, .dead, .dead, .dead, .dead, .dead, .dead, .dead, .dead, .dead, .dead, .dead, .dead, .dead, .dead, .dead, .dead, .data (.int .i64), .dead, .dead, .dead, .dead, .dead, .dead, .dead, .dead, .dead, .dead, .dead, .dead, .dead, .dead, .dead, .dead, .dead, .dead, .dead, .dead, .dead, .dead, .dead, .dead, .dead, .dead, .dead, .dead, .dead, .data .bool, .dead, .dead, .dead, .dead, .dead, .dead, .dead, .dead, .dead, .dead, .dead, .dead, .dead, .dead, .dead, .dead, .dead, .dead, .dead, .dead, .dead, .dead, .dead, .dead, .dead, .dead, .dead, .dead, .dead, .dead, .dead, .dead, .dead, .dead, .dead, .dead, .dead, .dead, .dead, .dead, .dead, .dead])]),
  (5, [(AX.normal, [.data (.int .i64), .data (.sl (.int .i64)), .data (.sl (.st (.pair (.sl (.int .i64)) .bool))), .dead, .dead, .dead, .box [.sl (.int .i64), .d .bool], .dead, .dead, .dead, .dead, .dead, .dead, .dead, .dead, .dead, .dead, .dead, .dead, .dead, .dead, .dead, .dead, .dead, .dead, .dead, .dead, .dead, .data .bool, .dead, .dead, .dead, .dead, .dead, .dead, .dead, .dead, .dead, .dead, .dead, .dead, .dead, .dead, .dead, .dead, .dead, .dead, .dead, .dead, .dead, .dead, .dead, .dead, .dead, .dead, .dead, .dead, .dead, .dead, .dead, .dead, .dead, .dead, .dead, .dead, .dead, .dead, .dead, .dead, .dead, .dead, .dead, .dead, .dead, .dead, .dead, .dead, .dead, .dead, .dead, .dead, .dead, .dead, .dead, .dead, .dead, .dead, .dead, .dead, .dead, .dead, .dead, .dead, .dead, .dead, .dead, .dead, .dead, .dead, .dead, .dead, .dead, .dead, .dead])])]
def F_op_Result (N : Nat) (op_0 : Int) (args_1 : List Int) (ins_2 : List ((List Int × Bool))) : Option ((List Int × Bool) × (Er × Unit)) :=
  Option.bind (F_op_Known N op_0) fun y0 =>
  cond (Bool.not (y0).1)
    (
    some ((([] : List Int), false), ((Go.Eng.Er.s ErrKind), ())))
    (
    Option.bind (
        Option.bind (F_op_Ins N op_0) fun y1 =>
        cond (decide (@Ne Int (Nat.cast (List.length ins_2) : Int) (y1).1))
          (
          some (op_0, (args_1, (ins_2, ((([] : List Int), (false, ())), (true, ()))))))
          (
          cond (decide (@Ne Int op_0 (18 : Int)))
            (
            Option.bind (F_op_Args N op_0) fun y2 =>
            some (op_0, (args_1, (ins_2, ((([] : List Int), (false, ())), ((decide (@Ne Int (Nat.cast (List.length args_1) : Int) (y2).1)), ()))))))
            (
            some (op_0, (args_1, (ins_2, ((([] : List Int), (false, ())), (false, ())))))))) fun y3 =>
    cond (((((y3).2).2).2).2).1
      (
      some ((([] : List Int), false), ((Go.Eng.Er.s ErrShape), ())))
      (
      cond (decide ((y3).1 = (12 : Int)))
        (
        cond (decide (0 < (List.length ((y3).2).1)))
          (
          cond (decide (1 < (List.length ((y3).2).1)))
            (
            cond (decide (0 < (List.length (((y3).2).2).1)))
              (
              cond (decide (1 < (List.length (((y3).2).2).1)))
                (
                Option.bind (F_mat_Result N (List.getD ((y3).2).1 0 (0 : Int)) (List.getD ((y3).2).1 1 (0 : Int)) (List.getD (((y3).2).2).1 0 (([] : List Int), false)) (List.getD (((y3).2).2).1 1 (([] : List Int), false))) fun y4 =>
                some y4)
                (
                none))
              (
              none))
            (
            none))
          (
          none))
        (
        cond (decide ((y3).1 = (13 : Int)))
          (
          cond (decide (0 < (List.length (((y3).2).2).1)))
            (
            cond (decide (1 < (List.length (((y3).2).2).1)))
              (
              Option.bind (F_conv_Result N ((y3).2).1 (List.getD (((y3).2).2).1 0 (([] : List Int), false)) (List.getD (((y3).2).2).1 1 (([] : List Int), false))) fun y5 =>
              some y5)
              (
              none))
            (
            none))
          (
          Option.bind (
              cond (decide ((y3).1 = (14 : Int)))
                (
                cond (decide ((List.length (((((y3).2).2).2).1).1) = (List.length (((((y3).2).2).2).1).1)))
                  (
                  some ((y3).1, (((y3).2).1, ((((y3).2).2).1, (((((y3).2).2).2).1, ((y3).1, (true, ())))))))
                  (
                  none))
                (
                cond (decide ((List.length (((((y3).2).2).2).1).1) = (List.length (((((y3).2).2).2).1).1)))
                  (
                  some ((y3).1, (((y3).2).1, ((((y3).2).2).1, (((((y3).2).2).2).1, ((y3).1, ((decide ((y3).1 = (15 : Int))), ())))))))
                  (
                  none))) fun y6 =>
          cond ((((((y6).2).2).2).2).2).1
            (
            cond (decide (0 < (List.length (((y6).2).2).1)))
              (
              Option.bind (F_pool_Result N ((y6).2).1 (List.getD (((y6).2).2).1 0 (([] : List Int), false))) fun y7 =>
              cond (decide (((0 : Nat) + (List.length ((y7).1).1)) ≤ (List.length ((y7).1).1)))
                (
                some (((List.take (List.length ((y7).1).1) ((y7).1).1), (((y7).1).2).1), (y7).2))
                (
                none))
              (
              none))
            (
            Option.bind (
                cond (decide ((((((y6).2).2).2).2).1 = (16 : Int)))
                  (
                  cond (decide ((List.length (((((y6).2).2).2).1).1) = (List.length (((((y6).2).2).2).1).1)))
                    (
                    some ((y6).1, (((y6).2).1, ((((y6).2).2).1, (((((y6).2).2).2).1, ((((((y6).2).2).2).2).1, (true, ())))))))
                    (
                    none))
                  (
                  cond (decide ((((((y6).2).2).2).2).1 = (19 : Int)))
                    (
                    cond (decide ((List.length (((((y6).2).2).2).1).1) = (List.length (((((y6).2).2).2).1).1)))
                      (
                      some ((y6).1, (((y6).2).1, ((((y6).2).2).1, (((((y6).2).2).2).1, ((((((y6).2).2).2).2).1, (true, ())))))))
                      (
                      none))
                    (
                    cond (decide ((((((y6).2).2).2).2).1 = (20 : Int)))
                      (
                      cond (decide ((List.length (((((y6).2).2).2).1).1) = (List.length (((((y6).2).2).2).1).1)))
                        (
                        some ((y6).1, (((y6).2).1, ((((y6).2).2).1, (((((y6).2).2).2).1, ((((((y6).2).2).2).2).1, (true, ())))))))
                        (
                        none))
                      (
                      cond (decide ((List.length (((((y6).2).2).2).1).1) = (List.length (((((y6).2).2).2).1).1)))
                        (
                        some ((y6).1, (((y6).2).1, ((((y6).2).2).1, (((((y6).2).2).2).1, ((((((y6).2).2).2).2).1, ((decide ((((((y6).2).2).2).2).1 = (17 : Int))), ())))))))
                        (
                        none))))) fun y8 =>
            cond ((((((y8).2).2).2).2).2).1
              (
              Option.bind (F_soft_Result N (y8).1 (((y8).2).2).1) fun y9 =>
              some y9)
              (
              cond (decide ((((((y8).2).2).2).2).1 = (18 : Int)))
                (
                cond (decide (0 < (List.length (((y8).2).2).1)))
                  (
                  Option.bind (F_op_reshape N ((y8).2).1 (List.getD (((y8).2).2).1 0 (([] : List Int), false))) fun y10 =>
                  some y10)
                  (
                  none))
                (
                cond (decide ((((((y8).2).2).2).2).1 = (21 : Int)))
                  (
                  cond (decide (0 < (List.length (((y8).2).2).1)))
                    (
                    Option.bind (F_op_turn N (List.getD (((y8).2).2).1 0 (([] : List Int), false))) fun y11 =>
                    cond (decide (((0 : Nat) + (List.length ((y11).1).1)) ≤ (List.length ((y11).1).1)))
                      (
                      some (((List.take (List.length ((y11).1).1) ((y11).1).1), (((y11).1).2).1), (y11).2))
                      (
                      none))
                    (
                    none))
                  (
                  Option.bind (F_elem_Result N (y8).1 ((y8).2).1 (((y8).2).2).1) fun y12 =>
                  cond (decide (((0 : Nat) + (List.length ((y12).1).1)) ≤ (List.length ((y12).1).1)))
                    (
                    some (((List.take (List.length ((y12).1).1) ((y12).1).1), (((y12).1).2).1), (y12).2))
                    (
                    none)))))))))

abbrev c_op_Result (N : Nat) : CallSpec := ⟨44, ps_op_Result, rs_op_Result, fun x => F_op_Result N x.1 x.2.1 x.2.2.1⟩

theorem cs_op_Result_ok (S : Nat → Addr) (N : Nat) : CallsOK Go.Proofs.Tryz.prog E S (cs_op_Result N) :=
  .cons (F_op_Known_ok S N) (.cons (F_op_Ins_ok S N) (.cons (F_op_Args_ok S N) (.cons (F_mat_Result_ok S N) (.cons (F_conv_Result_ok S N) (.cons (F_pool_Result_ok S N) (.cons (F_soft_Result_ok S N) (.cons (F_op_reshape_ok S N) (.cons (F_op_turn_ok S N) (.cons (F_elem_Result_ok S N) (.nil))))))))))
theorem F_op_Result_ok (S : Nat → Addr) (N : Nat) : ∀ x y, (c_op_Result N).g x = some y → FCon Go.Proofs.Tryz.prog E S 44 ps_op_Result rs_op_Result x y := by
  intro x y h
  exact fun_specJ E_ok mixed (cs_op_Result_ok S N) (f := 44) (fi := ⟨b_op_Result, 104, Go.Proofs.Tryz.f44.results.toList⟩) (by kernel_rfl) (ls := []) (.nil) (js := j_op_Result) (by kernel_rfl) (ps := ps_op_Result) (rs := rs_op_Result) (Eq.trans (b := F_op_Result N x.1 x.2.1 x.2.2.1) (by kernel_rfl) h)

/-! lodge/op.Unit -/

abbrev ps_op_Unit : List Ty := [(.int .i64), (.sl (.int .i64)), (.sl (.st (.pair (.sl (.int .i64)) .bool)))]
abbrev rs_op_Unit : List Slot := [.data (.int .i64), .data .err]
abbrev cs_op_Unit (N : Nat) : List CallSpec := [c_op_Result N]
noncomputable abbrev b_op_Unit : Code := (Go.Proofs.Tryz.f21.body).getD .skip

def F_op_Unit (N : Nat) (op_0 : Int) (args_1 : List Int) (ins_2 : List ((List Int × Bool))) : Option (Int × (Er × Unit)) :=
  Option.bind (F_op_Result N op_0 args_1 ins_2) fun y0 =>
  cond (Bool.not (Go.Eng.Er.isNil ((y0).2).1))
    (
    some ((0 : Int), (y0).2))
    (
    cond (decide (0 < (List.length ins_2)))
      (
      cond (decide (op_0 = (10 : Int)))
        (
        some ((2 : Int), (Go.Eng.Er.nil, ())))
        (
        cond (decide (op_0 = (12 : Int)))
          (
          cond (decide (1 < (List.length ((List.getD ins_2 0 (([] : List Int), false))).1)))
            (
            some ((List.getD ((List.getD ins_2 0 (([] : List Int), false))).1 1 (0 : Int)), (Go.Eng.Er.nil, ())))
            (
            none))
          (
          cond (decide (op_0 = (13 : Int)))
            (
            cond (decide (1 < (List.length ins_2)))
              (
              cond (decide (0 < (List.length ((List.getD ins_2 1 (([] : List Int), false))).1)))
                (
                cond (decide (1 < (List.length ((List.getD ins_2 1 (([] : List Int), false))).1)))
                  (
                  cond (decide (2 < (List.length ((List.getD ins_2 1 (([] : List Int), false))).1)))
                    (
                    some ((wi64 ((wi64 ((List.getD ((List.getD ins_2 1 (([] : List Int), false))).1 0 (0 : Int)) * (List.getD ((List.getD ins_2 1 (([] : List Int), false))).1 1 (0 : Int)))) * (List.getD ((List.getD ins_2 1 (([] : List Int), false))).1 2 (0 : Int)))), (Go.Eng.Er.nil, ())))
                    (
                    none))
                  (
                  none))
                (
                none))
              (
              none))
            (
            cond (decide (op_0 = (14 : Int)))
              (
              cond (decide (0 < (List.length args_1)))
                (
                cond (decide (0 < (List.length args_1)))
                  (
                  some ((wi64 ((List.getD args_1 0 (0 : Int)) * (List.getD args_1 0 (0 : Int)))), (Go.Eng.Er.nil, ())))
                  (
                  none))
                (
                none))
              (
              cond (decide (op_0 = (15 : Int)))
                (
                cond (decide (0 < (List.length args_1)))
                  (
                  cond (decide (0 < (List.length args_1)))
                    (
                    some ((wi64 ((List.getD args_1 0 (0 : Int)) * (List.getD args_1 0 (0 : Int)))), (Go.Eng.Er.nil, ())))
                    (
                    none))
                  (
                  none))
                (
                cond (decide (op_0 = (16 : Int)))
                  (
                  cond (decide ((0 : Int) ≤ (wi64 ((Nat.cast (List.length ((List.getD ins_2 0 (([] : List Int), false))).1) : Int) - (1 : Int)))))
                    (
                    cond (decide ((Int.toNat (wi64 ((Nat.cast (List.length ((List.getD ins_2 0 (([] : List Int), false))).1) : Int) - (1 : Int)))) < (List.length ((List.getD ins_2 0 (([] : List Int), false))).1)))
                      (
                      some ((List.getD ((List.getD ins_2 0 (([] : List Int), false))).1 (Int.toNat (wi64 ((Nat.cast (List.length ((List.getD ins_2 0 (([] : List Int), false))).1) : Int) - (1 : Int)))) (0 : Int)), (Go.Eng.Er.nil, ())))
                      (
                      none))
                    (
                    none))
                  (
                  cond (decide (op_0 = (19 : Int)))
                    (
                    cond (decide ((0 : Int) ≤ (wi64 ((Nat.cast (List.length ((List.getD ins_2 0 (([] : List Int), false))).1) : Int) - (1 : Int)))))
                      (
                      cond (decide ((Int.toNat (wi64 ((Nat.cast (List.length ((List.getD ins_2 0 (([] : List Int), false))).1) : Int) - (1 : Int)))) < (List.length ((List.getD ins_2 0 (([] : List Int), false))).1)))
                        (
                        some ((List.getD ((List.getD ins_2 0 (([] : List Int), false))).1 (Int.toNat (wi64 ((Nat.cast (List.length ((List.getD ins_2 0 (([] : List Int), false))).1) : Int) - (1 : Int)))) (0 : Int)), (Go.Eng.Er.nil, ())))
                        (
                        none))
                      (
                      none))
                    (
                    cond (decide (op_0 = (20 : Int)))
                      (
                      cond (decide ((0 : Int) ≤ (wi64 ((Nat.cast (List.length ((List.getD ins_2 0 (([] : List Int), false))).1) : Int) - (1 : Int)))))
                        (
                        cond (decide ((Int.toNat (wi64 ((Nat.cast (List.length ((List.getD ins_2 0 (([] : List Int), false))).1) : Int) - (1 : Int)))) < (List.length ((List.getD ins_2 0 (([] : List Int), false))).1)))
                          (
                          some ((List.getD ((List.getD ins_2 0 (([] : List Int), false))).1 (Int.toNat (wi64 ((Nat.cast (List.length ((List.getD ins_2 0 (([] : List Int), false))).1) : Int) - (1 : Int)))) (0 : Int)), (Go.Eng.Er.nil, ())))
                          (
                          none))
                        (
                        none))
                      (
                      some ((1 : Int), (Go.Eng.Er.nil, ())))))))))))
      (
      none))

abbrev c_op_Unit (N : Nat) : CallSpec := ⟨21, ps_op_Unit, rs_op_Unit, fun x => F_op_Unit N x.1 x.2.1 x.2.2.1⟩

theorem cs_op_Unit_ok (S : Nat → Addr) (N : Nat) : CallsOK Go.Proofs.Tryz.prog E S (cs_op_Unit N) :=
  .cons (F_op_Result_ok S N) (.nil)
theorem F_op_Unit_ok (S : Nat → Addr) (N : Nat) : ∀ x y, (c_op_Unit N).g x = some y → FCon Go.Proofs.Tryz.prog E S 21 ps_op_Unit rs_op_Unit x y := by
  intro x y h
  exact fun_spec E_ok mixed (cs_op_Unit_ok S N) (f := 21) (fi := ⟨b_op_Unit, 71, Go.Proofs.Tryz.f21.results.toList⟩) (by kernel_rfl) (ls := []) (.nil) (by kernel_rfl) (ps := ps_op_Unit) (rs := rs_op_Unit) (Eq.trans (b := F_op_Unit N x.1 x.2.1 x.2.2.1) (by kernel_rfl) h)

/-! lodge/lodgelaw12.first -/

abbrev ps_lodgelaw12_first : List Ty := []
abbrev rs_lodgelaw12_first : List Slot := [.data .bool]
abbrev cs_lodgelaw12_first (N : Nat) : List CallSpec := [c_op_Unit N]
noncomputable abbrev b_lodgelaw12_first : Code := (Go.Proofs.Tryz.f4.body).getD .skip

def F_lodgelaw12_first (N : Nat)  : Option (Bool × Unit) :=
  Option.bind (F_op_Unit N (12 : Int) ((0 : Int) :: ((0 : Int) :: ([] : List Int))) ((((2 : Int) :: ((3 : Int) :: ([] : List Int))), false) :: ((((3 : Int) :: ((4 : Int) :: ([] : List Int))), false) :: ([] : List ((List Int) × Bool))))) fun y0 =>
  cond (Go.Eng.Er.isNil ((y0).2).1)
    (
    some ((decide ((y0).1 = (3 : Int))), ()))
    (
    some (false, ()))

abbrev c_lodgelaw12_first (N : Nat) : CallSpec := ⟨4, ps_lodgelaw12_first, rs_lodgelaw12_first, fun x => F_lodgelaw12_first N ⟩

theorem cs_lodgelaw12_first_ok (S : Nat → Addr) (N : Nat) : CallsOK Go.Proofs.Tryz.prog E S (cs_lodgelaw12_first N) :=
  .cons (F_op_Unit_ok S N) (.nil)
theorem F_lodgelaw12_first_ok (S : Nat → Addr) (N : Nat) : ∀ x y, (c_lodgelaw12_first N).g x = some y → FCon Go.Proofs.Tryz.prog E S 4 ps_lodgelaw12_first rs_lodgelaw12_first x y := by
  intro x y h
  exact fun_spec E_ok mixed (cs_lodgelaw12_first_ok S N) (f := 4) (fi := ⟨b_lodgelaw12_first, 19, Go.Proofs.Tryz.f4.results.toList⟩) (by kernel_rfl) (ls := []) (.nil) (by kernel_rfl) (ps := ps_lodgelaw12_first) (rs := rs_lodgelaw12_first) (Eq.trans (b := F_lodgelaw12_first N ) (by kernel_rfl) h)

/-! lodge/lodgeworld.Desc -/

abbrev ps_lodgeworld_Desc : List Ty := [(.st (.pair (.sl (.int .i64)) .bool))]
abbrev rs_lodgeworld_Desc : List Slot := [.data .bool]
abbrev cs_lodgeworld_Desc (N : Nat) : List CallSpec := []
noncomputable abbrev b_lodgeworld_Desc : Code := (Go.Proofs.Tryz.f79.body).getD .skip

def F_lodgeworld_Desc (N : Nat) (d_0 : (List Int × Bool)) : Option (Bool × Unit) :=
  some ((decide ((Nat.cast (List.length (d_0).1) : Int) ≤ (8 : Int))), ())

abbrev c_lodgeworld_Desc (N : Nat) : CallSpec := ⟨79, ps_lodgeworld_Desc, rs_lodgeworld_Desc, fun x => F_lodgeworld_Desc N x.1⟩

theorem cs_lodgeworld_Desc_ok (S : Nat → Addr) (N : Nat) : CallsOK Go.Proofs.Tryz.prog E S (cs_lodgeworld_Desc N) :=
  .nil
theorem F_lodgeworld_Desc_ok (S : Nat → Addr) (N : Nat) : ∀ x y, (c_lodgeworld_Desc N).g x = some y → FCon Go.Proofs.Tryz.prog E S 79 ps_lodgeworld_Desc rs_lodgeworld_Desc x y := by
  intro x y h
  exact fun_spec E_ok mixed (cs_lodgeworld_Desc_ok S N) (f := 79) (fi := ⟨b_lodgeworld_Desc, 7, Go.Proofs.Tryz.f79.results.toList⟩) (by kernel_rfl) (ls := []) (.nil) (by kernel_rfl) (ps := ps_lodgeworld_Desc) (rs := rs_lodgeworld_Desc) (Eq.trans (b := F_lodgeworld_Desc N x.1) (by kernel_rfl) h)

/-! lodge/lodgeworld.Tensor -/

abbrev ps_lodgeworld_Tensor : List Ty := [(.st (.pair (.st (.pair (.sl (.int .i64)) .bool)) (.sl (.int .i64)))), (.int .i64)]
abbrev rs_lodgeworld_Tensor : List Slot := [.data .bool]
abbrev cs_lodgeworld_Tensor (N : Nat) : List CallSpec := [c_lodgeworld_Desc N]
noncomputable abbrev b_lodgeworld_Tensor : Code := (Go.Proofs.Tryz.f45.body).getD .skip

def F_lodgeworld_Tensor (N : Nat) (t_0 : ((List Int × Bool) × List Int)) (most_1 : Int) : Option (Bool × Unit) :=
  Option.bind (F_lodgeworld_Desc N (t_0).1) fun y0 =>
  cond (y0).1
    (
    some ((decide ((Nat.cast (List.length (t_0).2) : Int) ≤ most_1)), ()))
    (
    some (false, ()))

abbrev c_lodgeworld_Tensor (N : Nat) : CallSpec := ⟨45, ps_lodgeworld_Tensor, rs_lodgeworld_Tensor, fun x => F_lodgeworld_Tensor N x.1 x.2.1⟩

theorem cs_lodgeworld_Tensor_ok (S : Nat → Addr) (N : Nat) : CallsOK Go.Proofs.Tryz.prog E S (cs_lodgeworld_Tensor N) :=
  .cons (F_lodgeworld_Desc_ok S N) (.nil)
theorem F_lodgeworld_Tensor_ok (S : Nat → Addr) (N : Nat) : ∀ x y, (c_lodgeworld_Tensor N).g x = some y → FCon Go.Proofs.Tryz.prog E S 45 ps_lodgeworld_Tensor rs_lodgeworld_Tensor x y := by
  intro x y h
  exact fun_spec E_ok mixed (cs_lodgeworld_Tensor_ok S N) (f := 45) (fi := ⟨b_lodgeworld_Tensor, 15, Go.Proofs.Tryz.f45.results.toList⟩) (by kernel_rfl) (ls := []) (.nil) (by kernel_rfl) (ps := ps_lodgeworld_Tensor) (rs := rs_lodgeworld_Tensor) (Eq.trans (b := F_lodgeworld_Tensor N x.1 x.2.1) (by kernel_rfl) h)

/-! lodge/lodgeworld.Tensors -/

abbrev ps_lodgeworld_Tensors : List Ty := [(.sl (.st (.pair (.st (.pair (.sl (.int .i64)) .bool)) (.sl (.int .i64))))), (.int .i64), (.int .i64)]
abbrev rs_lodgeworld_Tensors : List Slot := [.data .bool]
abbrev cs_lodgeworld_Tensors (N : Nat) : List CallSpec := [c_lodgeworld_Tensor N]
noncomputable abbrev b_lodgeworld_Tensors : Code := (Go.Proofs.Tryz.f22.body).getD .skip

abbrev h_lodgeworld_Tensors_0 : List Slot := [.data (.sl (.st (.pair (.st (.pair (.sl (.int .i64)) .bool)) (.sl (.int .i64))))), .dead, .data (.int .i64), .dead, .dead, .dead, .dead, .data (.int .i64), .dead, .dead, .dead, .dead, .dead, .dead, .dead, .dead, .dead, .dead, .dead, .dead, .dead, .dead, .dead, .dead, .dead]
abbrev e_lodgeworld_Tensors_0 : List (AX × List Slot) := [(AX.exit 0, [.dead, .dead, .dead, .dead, .dead, .dead, .dead, .dead, .dead, .dead, .dead, .dead, .dead, .dead, .dead, .dead, .dead, .dead, .dead, .dead, .dead, .dead, .dead, .dead, .dead]), (AX.ret, [.dead, .dead, .dead, .dead, .dead, .dead, .data .bool, .dead, .dead, .dead, .dead, .dead, .dead, .dead, .dead, .dead, .dead, .dead, .dead, .dead, .dead, .dead, .dead, .dead, .dead])]
def g_lodgeworld_Tensors_0 (N : Nat) : Nat → List (((List Int × Bool) × List Int)) → Int → Int → Option (Sum Unit (Bool × Unit))
  | 0, _, _, _ => none
  | n + 1, l_0, most_2, i_7 =>
    cond (decide (i_7 < (Nat.cast (List.length l_0) : Int)))
      (
      cond (decide ((0 : Int) ≤ i_7))
        (
        cond (decide ((Int.toNat i_7) < (List.length l_0)))
          (
          Option.bind (F_lodgeworld_Tensor N (List.getD l_0 (Int.toNat i_7) ((([] : List Int), false), ([] : List Int))) most_2) fun y1 =>
          cond (Bool.not (y1).1)
            (
            some (Sum.inr (false, ())))
            (
            (g_lodgeworld_Tensors_0 N n l_0 most_2 (wi64 (i_7 + (1 : Int))))))
          (
          none))
        (
        none))
      (
      some (Sum.inl ()))

def F_lodgeworld_Tensors (N : Nat) (l_0 : List (((List Int × Bool) × List Int))) (many_1 : Int) (most_2 : Int) : Option (Bool × Unit) :=
  cond (decide (many_1 < (Nat.cast (List.length l_0) : Int)))
    (
    some (false, ()))
    (
    Option.bind (g_lodgeworld_Tensors_0 N N l_0 most_2 (0 : Int)) fun y0 =>
    Sum.elim (fun y1 =>
      some (true, ()))
      (fun y2 =>
      some y2) y0)

abbrev c_lodgeworld_Tensors (N : Nat) : CallSpec := ⟨22, ps_lodgeworld_Tensors, rs_lodgeworld_Tensors, fun x => F_lodgeworld_Tensors N x.1 x.2.1 x.2.2.1⟩
abbrev l_lodgeworld_Tensors_0 (N : Nat) : LoopSpec := ⟨0, h_lodgeworld_Tensors_0, e_lodgeworld_Tensors_0, fun x => g_lodgeworld_Tensors_0 N N x.1 x.2.1 x.2.2.1⟩

theorem cs_lodgeworld_Tensors_ok (S : Nat → Addr) (N : Nat) : CallsOK Go.Proofs.Tryz.prog E S (cs_lodgeworld_Tensors N) :=
  .cons (F_lodgeworld_Tensor_ok S N) (.nil)
noncomputable abbrev b_lodgeworld_Tensors_0 : Code := (loopsOf b_lodgeworld_Tensors).getD 0 .skip
theorem g_lodgeworld_Tensors_0_ok (S : Nat → Addr) (N : Nat) : ∀ n x y, (fun (x : Val (slotsTy h_lodgeworld_Tensors_0)) => g_lodgeworld_Tensors_0 N n x.1 x.2.1 x.2.2.1) x = some y → LoopCon Go.Proofs.Tryz.prog E S b_lodgeworld_Tensors_0 (encSlots h_lodgeworld_Tensors_0 x) (encEx e_lodgeworld_Tensors_0 y).1 (encEx e_lodgeworld_Tensors_0 y).2 :=
  loop_spec E_ok mixed (cs_lodgeworld_Tensors_ok S N) (all := loopsOf b_lodgeworld_Tensors) (ls := []) (.nil) (i := 0) (by kernel_rfl) (inner_of (by kernel_rfl)) (head := h_lodgeworld_Tensors_0) (ex := e_lodgeworld_Tensors_0) (fun n (x : Val (slotsTy h_lodgeworld_Tensors_0)) => g_lodgeworld_Tensors_0 N n x.1 x.2.1 x.2.2.1) (fun _ => rfl) (fun n x => by kernel_rfl)
theorem F_lodgeworld_Tensors_ok (S : Nat → Addr) (N : Nat) : ∀ x y, (c_lodgeworld_Tensors N).g x = some y → FCon Go.Proofs.Tryz.prog E S 22 ps_lodgeworld_Tensors rs_lodgeworld_Tensors x y := by
  intro x y h
  exact fun_spec E_ok mixed (cs_lodgeworld_Tensors_ok S N) (f := 22) (fi := ⟨b_lodgeworld_Tensors, 25, Go.Proofs.Tryz.f22.results.toList⟩) (by kernel_rfl) (ls := [l_lodgeworld_Tensors_0 N]) (.cons (by kernel_rfl) (g_lodgeworld_Tensors_0_ok S N N) (.nil)) (by kernel_rfl) (ps := ps_lodgeworld_Tensors) (rs := rs_lodgeworld_Tensors) (Eq.trans (b := F_lodgeworld_Tensors N x.1 x.2.1 x.2.2.1) (by kernel_rfl) h)

/-! lodge/lodgeref3.Known -/

abbrev ps_lodgeref3_Known : List Ty := [(.int .i64)]
abbrev rs_lodgeref3_Known : List Slot := [.data .bool]
abbrev cs_lodgeref3_Known (N : Nat) : List CallSpec := []
noncomputable abbrev b_lodgeref3_Known : Code := (Go.Proofs.Tryz.f10.body).getD .skip

def F_lodgeref3_Known (N : Nat) (op_0 : Int) : Option (Bool × Unit) :=
  cond (decide ((4 : Int) ≤ op_0))
    (
    some ((decide (op_0 ≤ (21 : Int))), ()))
    (
    some (false, ()))

abbrev c_lodgeref3_Known (N : Nat) : CallSpec := ⟨10, ps_lodgeref3_Known, rs_lodgeref3_Known, fun x => F_lodgeref3_Known N x.1⟩

theorem cs_lodgeref3_Known_ok (S : Nat → Addr) (N : Nat) : CallsOK Go.Proofs.Tryz.prog E S (cs_lodgeref3_Known N) :=
  .nil
theorem F_lodgeref3_Known_ok (S : Nat → Addr) (N : Nat) : ∀ x y, (c_lodgeref3_Known N).g x = some y → FCon Go.Proofs.Tryz.prog E S 10 ps_lodgeref3_Known rs_lodgeref3_Known x y := by
  intro x y h
  exact fun_spec E_ok mixed (cs_lodgeref3_Known_ok S N) (f := 10) (fi := ⟨b_lodgeref3_Known, 9, Go.Proofs.Tryz.f10.results.toList⟩) (by kernel_rfl) (ls := []) (.nil) (by kernel_rfl) (ps := ps_lodgeref3_Known) (rs := rs_lodgeref3_Known) (Eq.trans (b := F_lodgeref3_Known N x.1) (by kernel_rfl) h)

/-! lodge/lodgeref3.ValidDesc -/

abbrev ps_lodgeref3_ValidDesc : List Ty := [(.st (.pair (.sl (.int .i64)) .bool))]
abbrev rs_lodgeref3_ValidDesc : List Slot := [.data (.int .i64)]
abbrev cs_lodgeref3_ValidDesc (N : Nat) : List CallSpec := []
noncomputable abbrev b_lodgeref3_ValidDesc : Code := (Go.Proofs.Tryz.f51.body).getD .skip

abbrev h_lodgeref3_ValidDesc_0 : List Slot := [.dead, .box [.d (.st (.pair (.sl (.int .i64)) .bool))], .dead, .data (.int .i64), .data (.int .i64), .dead, .dead, .dead, .dead, .dead, .dead, .dead, .dead, .dead, .dead, .dead, .dead, .dead, .dead, .dead, .dead, .dead, .dead, .dead, .dead, .dead, .dead, .dead, .dead, .dead, .dead, .dead, .dead, .dead, .dead, .dead, .dead, .dead, .dead]
abbrev e_lodgeref3_ValidDesc_0 : List (AX × List Slot) := [(AX.exit 0, [.dead, .dead, .dead, .data (.int .i64), .dead, .dead, .dead, .dead, .dead, .dead, .dead, .dead, .dead, .dead, .dead, .dead, .dead, .dead, .dead, .dead, .dead, .dead, .dead, .dead, .dead, .dead, .dead, .dead, .dead, .dead, .dead, .dead, .dead, .dead, .dead, .dead, .dead, .dead, .dead]), (AX.ret, [.dead, .dead, .data (.int .i64), .dead, .dead, .dead, .dead, .dead, .dead, .dead, .dead, .dead, .dead, .dead, .dead, .dead, .dead, .dead, .dead, .dead, .dead, .dead, .dead, .dead, .dead, .dead, .dead, .dead, .dead, .dead, .dead, .dead, .dead, .dead, .dead, .dead, .dead, .dead, .dead])]
def g_lodgeref3_ValidDesc_0 (N : Nat) : Nat → ((List Int × Bool) × Unit) → Int → Int → Option (Sum (Int × Unit) (Int × Unit))
  | 0, _, _, _ => none
  | n + 1, d_1, n_3, i_4 =>
    cond (decide (i_4 < (Nat.cast (List.length ((d_1).1).1) : Int)))
      (
      cond (decide ((0 : Int) ≤ i_4))
        (
        cond (decide ((Int.toNat i_4) < (List.length ((d_1).1).1)))
          (
          cond (decide ((List.getD ((d_1).1).1 (Int.toNat i_4) (0 : Int)) < (1 : Int)))
            (
            some (Sum.inr ((102 : Int), ())))
            (
            cond (decide ((0 : Int) ≤ i_4))
              (
              cond (decide ((Int.toNat i_4) < (List.length ((d_1).1).1)))
                (
                cond (decide ((256 : Int) < (List.getD ((d_1).1).1 (Int.toNat i_4) (0 : Int))))
                  (
                  some (Sum.inr ((102 : Int), ())))
                  (
                  cond (decide ((0 : Int) ≤ i_4))
                    (
                    cond (decide ((Int.toNat i_4) < (List.length ((d_1).1).1)))
                      (
                      (g_lodgeref3_ValidDesc_0 N n d_1 (wi64 (n_3 * (List.getD ((d_1).1).1 (Int.toNat i_4) (0 : Int)))) (wi64 (i_4 + (1 : Int)))))
                      (
                      none))
                    (
                    none)))
                (
                none))
              (
              none)))
          (
          none))
        (
        none))
      (
      some (Sum.inl (n_3, ())))

def F_lodgeref3_ValidDesc (N : Nat) (d_0 : (List Int × Bool)) : Option (Int × Unit) :=
  cond (decide ((4 : Int) < (Nat.cast (List.length (d_0).1) : Int)))
    (
    some ((104 : Int), ()))
    (
    Option.bind (g_lodgeref3_ValidDesc_0 N N (d_0, ()) (1 : Int) (0 : Int)) fun y0 =>
    Sum.elim (fun y1 =>
      cond (decide ((16384 : Int) < (y1).1))
        (
        some ((104 : Int), ()))
        (
        some ((0 : Int), ())))
      (fun y2 =>
      some y2) y0)

abbrev c_lodgeref3_ValidDesc (N : Nat) : CallSpec := ⟨51, ps_lodgeref3_ValidDesc, rs_lodgeref3_ValidDesc, fun x => F_lodgeref3_ValidDesc N x.1⟩
abbrev l_lodgeref3_ValidDesc_0 (N : Nat) : LoopSpec := ⟨0, h_lodgeref3_ValidDesc_0, e_lodgeref3_ValidDesc_0, fun x => g_lodgeref3_ValidDesc_0 N N x.1 x.2.1 x.2.2.1⟩

theorem cs_lodgeref3_ValidDesc_ok (S : Nat → Addr) (N : Nat) : CallsOK Go.Proofs.Tryz.prog E S (cs_lodgeref3_ValidDesc N) :=
  .nil
noncomputable abbrev b_lodgeref3_ValidDesc_0 : Code := (loopsOf b_lodgeref3_ValidDesc).getD 0 .skip
theorem g_lodgeref3_ValidDesc_0_ok (S : Nat → Addr) (N : Nat) : ∀ n x y, (fun (x : Val (slotsTy h_lodgeref3_ValidDesc_0)) => g_lodgeref3_ValidDesc_0 N n x.1 x.2.1 x.2.2.1) x = some y → LoopCon Go.Proofs.Tryz.prog E S b_lodgeref3_ValidDesc_0 (encSlots h_lodgeref3_ValidDesc_0 x) (encEx e_lodgeref3_ValidDesc_0 y).1 (encEx e_lodgeref3_ValidDesc_0 y).2 :=
  loop_spec E_ok mixed (cs_lodgeref3_ValidDesc_ok S N) (all := loopsOf b_lodgeref3_ValidDesc) (ls := []) (.nil) (i := 0) (by kernel_rfl) (inner_of (by kernel_rfl)) (head := h_lodgeref3_ValidDesc_0) (ex := e_lodgeref3_ValidDesc_0) (fun n (x : Val (slotsTy h_lodgeref3_ValidDesc_0)) => g_lodgeref3_ValidDesc_0 N n x.1 x.2.1 x.2.2.1) (fun _ => rfl) (fun n x => by kernel_rfl)
theorem F_lodgeref3_ValidDesc_ok (S : Nat → Addr) (N : Nat) : ∀ x y, (c_lodgeref3_ValidDesc N).g x = some y → FCon Go.Proofs.Tryz.prog E S 51 ps_lodgeref3_ValidDesc rs_lodgeref3_ValidDesc x y := by
  intro x y h
  exact fun_spec E_ok mixed (cs_lodgeref3_ValidDesc_ok S N) (f := 51) (fi := ⟨b_lodgeref3_ValidDesc, 39, Go.Proofs.Tryz.f51.results.toList⟩) (by kernel_rfl) (ls := [l_lodgeref3_ValidDesc_0 N]) (.cons (by kernel_rfl) (g_lodgeref3_ValidDesc_0_ok S N N) (.nil)) (by kernel_rfl) (ps := ps_lodgeref3_ValidDesc) (rs := rs_lodgeref3_ValidDesc) (Eq.trans (b := F_lodgeref3_ValidDesc N x.1) (by kernel_rfl) h)

/-! lodge/lodgeref3.descs -/

abbrev ps_lodgeref3_descs : List Ty := [(.sl (.st (.pair (.sl (.int .i64)) .bool)))]
abbrev rs_lodgeref3_descs : List Slot := [.data (.int .i64)]
abbrev cs_lodgeref3_descs (N : Nat) : List CallSpec := [c_lodgeref3_ValidDesc N]
noncomputable abbrev b_lodgeref3_descs : Code := (Go.Proofs.Tryz.f80.body).getD .skip

abbrev h_lodgeref3_descs_0 : List Slot := [.data (.sl (.st (.pair (.sl (.int .i64)) .bool))), .dead, .dead, .data (.int .i64), .dead, .dead, .dead, .dead, .dead, .dead, .dead, .dead, .dead, .dead, .dead, .dead, .dead, .dead, .dead]
abbrev e_lodgeref3_descs_0 : List (AX × List Slot) := [(AX.exit 0, [.dead, .dead, .dead, .dead, .dead, .dead, .dead, .dead, .dead, .dead, .dead, .dead, .dead, .dead, .dead, .dead, .dead, .dead, .dead]), (AX.ret, [.dead, .dead, .data (.int .i64), .dead, .dead, .dead, .dead, .dead, .dead, .dead, .dead, .dead, .dead, .dead, .dead, .dead, .dead, .dead, .dead])]
def g_lodgeref3_descs_0 (N : Nat) : Nat → List ((List Int × Bool)) → Int → Option (Sum Unit (Int × Unit))
  | 0, _, _ => none
  | n + 1, l_0, i_3 =>
    cond (decide (i_3 < (Nat.cast (List.length l_0) : Int)))
      (
      cond (decide ((0 : Int) ≤ i_3))
        (
        cond (decide ((Int.toNat i_3) < (List.length l_0)))
          (
          Option.bind (F_lodgeref3_ValidDesc N (List.getD l_0 (Int.toNat i_3) (([] : List Int), false))) fun y1 =>
          cond (decide (@Ne Int (y1).1 (0 : Int)))
            (
            some (Sum.inr y1))
            (
            (g_lodgeref3_descs_0 N n l_0 (wi64 (i_3 + (1 : Int))))))
          (
          none))
        (
        none))
      (
      some (Sum.inl ()))

def F_lodgeref3_descs (N : Nat) (l_0 : List ((List Int × Bool))) : Option (Int × Unit) :=
  Option.bind (g_lodgeref3_descs_0 N N l_0 (0 : Int)) fun y0 =>
  Sum.elim (fun y1 =>
    some ((0 : Int), ()))
    (fun y2 =>
    some y2) y0

abbrev c_lodgeref3_descs (N : Nat) : CallSpec := ⟨80, ps_lodgeref3_descs, rs_lodgeref3_descs, fun x => F_lodgeref3_descs N x.1⟩
abbrev l_lodgeref3_descs_0 (N : Nat) : LoopSpec := ⟨0, h_lodgeref3_descs_0, e_lodgeref3_descs_0, fun x => g_lodgeref3_descs_0 N N x.1 x.2.1⟩

theorem cs_lodgeref3_descs_ok (S : Nat → Addr) (N : Nat) : CallsOK Go.Proofs.Tryz.prog E S (cs_lodgeref3_descs N) :=
  .cons (F_lodgeref3_ValidDesc_ok S N) (.nil)
noncomputable abbrev b_lodgeref3_descs_0 : Code := (loopsOf b_lodgeref3_descs).getD 0 .skip
theorem g_lodgeref3_descs_0_ok (S : Nat → Addr) (N : Nat) : ∀ n x y, (fun (x : Val (slotsTy h_lodgeref3_descs_0)) => g_lodgeref3_descs_0 N n x.1 x.2.1) x = some y → LoopCon Go.Proofs.Tryz.prog E S b_lodgeref3_descs_0 (encSlots h_lodgeref3_descs_0 x) (encEx e_lodgeref3_descs_0 y).1 (encEx e_lodgeref3_descs_0 y).2 :=
  loop_spec E_ok mixed (cs_lodgeref3_descs_ok S N) (all := loopsOf b_lodgeref3_descs) (ls := []) (.nil) (i := 0) (by kernel_rfl) (inner_of (by kernel_rfl)) (head := h_lodgeref3_descs_0) (ex := e_lodgeref3_descs_0) (fun n (x : Val (slotsTy h_lodgeref3_descs_0)) => g_lodgeref3_descs_0 N n x.1 x.2.1) (fun _ => rfl) (fun n x => by kernel_rfl)
theorem F_lodgeref3_descs_ok (S : Nat → Addr) (N : Nat) : ∀ x y, (c_lodgeref3_descs N).g x = some y → FCon Go.Proofs.Tryz.prog E S 80 ps_lodgeref3_descs rs_lodgeref3_descs x y := by
  intro x y h
  exact fun_spec E_ok mixed (cs_lodgeref3_descs_ok S N) (f := 80) (fi := ⟨b_lodgeref3_descs, 19, Go.Proofs.Tryz.f80.results.toList⟩) (by kernel_rfl) (ls := [l_lodgeref3_descs_0 N]) (.cons (by kernel_rfl) (g_lodgeref3_descs_0_ok S N N) (.nil)) (by kernel_rfl) (ps := ps_lodgeref3_descs) (rs := rs_lodgeref3_descs) (Eq.trans (b := F_lodgeref3_descs N x.1) (by kernel_rfl) h)

/-! lodge/lodgeref.SameInts -/

abbrev ps_lodgeref_SameInts : List Ty := [(.sl (.int .i64)), (.sl (.int .i64))]
abbrev rs_lodgeref_SameInts : List Slot := [.data .bool]
abbrev cs_lodgeref_SameInts (N : Nat) : List CallSpec := []
noncomputable abbrev b_lodgeref_SameInts : Code := (Go.Proofs.Tryz.f41.body).getD .skip

abbrev h_lodgeref_SameInts_0 : List Slot := [.data (.sl (.int .i64)), .data (.sl (.int .i64)), .dead, .dead, .dead, .data (.int .i64), .dead, .dead, .dead, .dead, .dead, .dead, .dead, .dead, .dead, .dead, .dead, .dead, .dead, .dead, .dead, .dead, .dead, .dead, .dead, .dead, .dead, .dead, .dead]
abbrev e_lodgeref_SameInts_0 : List (AX × List Slot) := [(AX.exit 0, [.dead, .dead, .dead, .dead, .dead, .dead, .dead, .dead, .dead, .dead, .dead, .dead, .dead, .dead, .dead, .dead, .dead, .dead, .dead, .dead, .dead, .dead, .dead, .dead, .dead, .dead, .dead, .dead, .dead]), (AX.ret, [.dead, .dead, .dead, .dead, .data .bool, .dead, .dead, .dead, .dead, .dead, .dead, .dead, .dead, .dead, .dead, .dead, .dead, .dead, .dead, .dead, .dead, .dead, .dead, .dead, .dead, .dead, .dead, .dead, .dead])]
def g_lodgeref_SameInts_0 (N : Nat) : Nat → List Int → List Int → Int → Option (Sum Unit (Bool × Unit))
  | 0, _, _, _ => none
  | n + 1, a_0, b_1, i_5 =>
    cond (decide (i_5 < (Nat.cast (List.length a_0) : Int)))
      (
      cond (decide ((0 : Int) ≤ i_5))
        (
        cond (decide ((Int.toNat i_5) < (List.length a_0)))
          (
          cond (decide ((0 : Int) ≤ i_5))
            (
            cond (decide ((Int.toNat i_5) < (List.length b_1)))
              (
              cond (Bool.not (decide ((List.getD a_0 (Int.toNat i_5) (0 : Int)) = (List.getD b_1 (Int.toNat i_5) (0 : Int)))))
                (
                some (Sum.inr (false, ())))
                (
                (g_lodgeref_SameInts_0 N n a_0 b_1 (wi64 (i_5 + (1 : Int))))))
              (
              none))
            (
            none))
          (
          none))
        (
        none))
      (
      some (Sum.inl ()))

def F_lodgeref_SameInts (N : Nat) (a_0 : List Int) (b_1 : List Int) : Option (Bool × Unit) :=
  cond (decide (@Ne Int (Nat.cast (List.length a_0) : Int) (Nat.cast (List.length b_1) : Int)))
    (
    some (false, ()))
    (
    Option.bind (g_lodgeref_SameInts_0 N N a_0 b_1 (0 : Int)) fun y0 =>
    Sum.elim (fun y1 =>
      some (true, ()))
      (fun y2 =>
      some y2) y0)

abbrev c_lodgeref_SameInts (N : Nat) : CallSpec := ⟨41, ps_lodgeref_SameInts, rs_lodgeref_SameInts, fun x => F_lodgeref_SameInts N x.1 x.2.1⟩
abbrev l_lodgeref_SameInts_0 (N : Nat) : LoopSpec := ⟨0, h_lodgeref_SameInts_0, e_lodgeref_SameInts_0, fun x => g_lodgeref_SameInts_0 N N x.1 x.2.1 x.2.2.1⟩

theorem cs_lodgeref_SameInts_ok (S : Nat → Addr) (N : Nat) : CallsOK Go.Proofs.Tryz.prog E S (cs_lodgeref_SameInts N) :=
  .nil
noncomputable abbrev b_lodgeref_SameInts_0 : Code := (loopsOf b_lodgeref_SameInts).getD 0 .skip
theorem g_lodgeref_SameInts_0_ok (S : Nat → Addr) (N : Nat) : ∀ n x y, (fun (x : Val (slotsTy h_lodgeref_SameInts_0)) => g_lodgeref_SameInts_0 N n x.1 x.2.1 x.2.2.1) x = some y → LoopCon Go.Proofs.Tryz.prog E S b_lodgeref_SameInts_0 (encSlots h_lodgeref_SameInts_0 x) (encEx e_lodgeref_SameInts_0 y).1 (encEx e_lodgeref_SameInts_0 y).2 :=
  loop_spec E_ok mixed (cs_lodgeref_SameInts_ok S N) (all := loopsOf b_lodgeref_SameInts) (ls := []) (.nil) (i := 0) (by kernel_rfl) (inner_of (by kernel_rfl)) (head := h_lodgeref_SameInts_0) (ex := e_lodgeref_SameInts_0) (fun n (x : Val (slotsTy h_lodgeref_SameInts_0)) => g_lodgeref_SameInts_0 N n x.1 x.2.1 x.2.2.1) (fun _ => rfl) (fun n x => by kernel_rfl)
theorem F_lodgeref_SameInts_ok (S : Nat → Addr) (N : Nat) : ∀ x y, (c_lodgeref_SameInts N).g x = some y → FCon Go.Proofs.Tryz.prog E S 41 ps_lodgeref_SameInts rs_lodgeref_SameInts x y := by
  intro x y h
  exact fun_spec E_ok mixed (cs_lodgeref_SameInts_ok S N) (f := 41) (fi := ⟨b_lodgeref_SameInts, 29, Go.Proofs.Tryz.f41.results.toList⟩) (by kernel_rfl) (ls := [l_lodgeref_SameInts_0 N]) (.cons (by kernel_rfl) (g_lodgeref_SameInts_0_ok S N N) (.nil)) (by kernel_rfl) (ps := ps_lodgeref_SameInts) (rs := rs_lodgeref_SameInts) (Eq.trans (b := F_lodgeref_SameInts N x.1 x.2.1) (by kernel_rfl) h)

/-! lodge/lodgeref.SameDesc -/

abbrev ps_lodgeref_SameDesc : List Ty := [(.st (.pair (.sl (.int .i64)) .bool)), (.st (.pair (.sl (.int .i64)) .bool))]
abbrev rs_lodgeref_SameDesc : List Slot := [.data .bool]
abbrev cs_lodgeref_SameDesc (N : Nat) : List CallSpec := [c_lodgeref_SameInts N]
noncomputable abbrev b_lodgeref_SameDesc : Code := (Go.Proofs.Tryz.f40.body).getD .skip

def F_lodgeref_SameDesc (N : Nat) (a_0 : (List Int × Bool)) (b_1 : (List Int × Bool)) : Option (Bool × Unit) :=
  Option.bind (F_lodgeref_SameInts N (a_0).1 (b_1).1) fun y0 =>
  cond (y0).1
    (
    some (((a_0).2 == (b_1).2), ()))
    (
    some (false, ()))

abbrev c_lodgeref_SameDesc (N : Nat) : CallSpec := ⟨40, ps_lodgeref_SameDesc, rs_lodgeref_SameDesc, fun x => F_lodgeref_SameDesc N x.1 x.2.1⟩

theorem cs_lodgeref_SameDesc_ok (S : Nat → Addr) (N : Nat) : CallsOK Go.Proofs.Tryz.prog E S (cs_lodgeref_SameDesc N) :=
  .cons (F_lodgeref_SameInts_ok S N) (.nil)
theorem F_lodgeref_SameDesc_ok (S : Nat → Addr) (N : Nat) : ∀ x y, (c_lodgeref_SameDesc N).g x = some y → FCon Go.Proofs.Tryz.prog E S 40 ps_lodgeref_SameDesc rs_lodgeref_SameDesc x y := by
  intro x y h
  exact fun_spec E_ok mixed (cs_lodgeref_SameDesc_ok S N) (f := 40) (fi := ⟨b_lodgeref_SameDesc, 19, Go.Proofs.Tryz.f40.results.toList⟩) (by kernel_rfl) (ls := []) (.nil) (by kernel_rfl) (ps := ps_lodgeref_SameDesc) (rs := rs_lodgeref_SameDesc) (Eq.trans (b := F_lodgeref_SameDesc N x.1 x.2.1) (by kernel_rfl) h)

/-! lodge/lodgeref.Ints -/

abbrev ps_lodgeref_Ints : List Ty := [(.sl (.int .i64))]
abbrev rs_lodgeref_Ints : List Slot := [.sl (.int .i64)]
abbrev cs_lodgeref_Ints (N : Nat) : List CallSpec := []
noncomputable abbrev b_lodgeref_Ints : Code := (Go.Proofs.Tryz.f53.body).getD .skip

abbrev h_lodgeref_Ints_0 : List Slot := [.data (.sl (.int .i64)), .dead, .dead, .sl (.int .i64), .data (.int .i64), .dead, .dead, .dead, .dead, .dead, .dead, .dead, .dead, .dead, .dead, .dead, .dead, .dead, .dead, .dead, .dead, .dead]
abbrev e_lodgeref_Ints_0 : List (AX × List Slot) := [(AX.exit 0, [.dead, .dead, .dead, .sl (.int .i64), .dead, .dead, .dead, .dead, .dead, .dead, .dead, .dead, .dead, .dead, .dead, .dead, .dead, .dead, .dead, .dead, .dead, .dead])]
def g_lodgeref_Ints_0 (N : Nat) : Nat → List Int → List Int → Int → Option (List Int × Unit)
  | 0, _, _, _ => none
  | n + 1, l_0, out_3, i_4 =>
    cond (decide (i_4 < (Nat.cast (List.length l_0) : Int)))
      (
      cond (decide ((0 : Int) ≤ i_4))
        (
        cond (decide ((Int.toNat i_4) < (List.length l_0)))
          (
          cond (decide (((0 : Nat) + (List.length out_3)) = (List.length out_3)))
            (
            cond (decide ((((List.length out_3) + 1) * (8 + (1 : Nat))) ≤ Go.Eng.most))
              (
              cond (decide (((List.length out_3) + 1) = (List.length ((List.take (List.length out_3) out_3) ++ ((List.getD l_0 (Int.toNat i_4) (0 : Int)) :: ([] : List Int))))))
                (
                (g_lodgeref_Ints_0 N n l_0 ((List.take (List.length out_3) out_3) ++ ((List.getD l_0 (Int.toNat i_4) (0 : Int)) :: ([] : List Int))) (wi64 (i_4 + (1 : Int)))))
                (
                none))
              (
              none))
            (
            none))
          (
          none))
        (
        none))
      (
      cond (decide ((List.length out_3) = (List.length out_3)))
        (
        some (out_3, ()))
        (
        none))

def F_lodgeref_Ints (N : Nat) (l_0 : List Int) : Option (List Int × Unit) :=
  cond (decide (((Nat.cast (List.length l_0) : Int) * ((Nat.cast 8 : Int) + (1 : Int))) ≤ (Nat.cast Go.Eng.most : Int)))
    (
    Option.bind (g_lodgeref_Ints_0 N N l_0 (List.replicate 0 (0 : Int)) (0 : Int)) fun y0 =>
    cond (decide ((List.length (y0).1) = (List.length (y0).1)))
      (
      some y0)
      (
      none))
    (
    none)

abbrev c_lodgeref_Ints (N : Nat) : CallSpec := ⟨53, ps_lodgeref_Ints, rs_lodgeref_Ints, fun x => F_lodgeref_Ints N x.1⟩
abbrev l_lodgeref_Ints_0 (N : Nat) : LoopSpec := ⟨0, h_lodgeref_Ints_0, e_lodgeref_Ints_0, fun x => g_lodgeref_Ints_0 N N x.1 x.2.1 x.2.2.1⟩

theorem cs_lodgeref_Ints_ok (S : Nat → Addr) (N : Nat) : CallsOK Go.Proofs.Tryz.prog E S (cs_lodgeref_Ints N) :=
  .nil
noncomputable abbrev b_lodgeref_Ints_0 : Code := (loopsOf b_lodgeref_Ints).getD 0 .skip
theorem g_lodgeref_Ints_0_ok (S : Nat → Addr) (N : Nat) : ∀ n x y, (fun (x : Val (slotsTy h_lodgeref_Ints_0)) => g_lodgeref_Ints_0 N n x.1 x.2.1 x.2.2.1) x = some y → LoopCon Go.Proofs.Tryz.prog E S b_lodgeref_Ints_0 (encSlots h_lodgeref_Ints_0 x) (encEx e_lodgeref_Ints_0 y).1 (encEx e_lodgeref_Ints_0 y).2 :=
  loop_spec E_ok mixed (cs_lodgeref_Ints_ok S N) (all := loopsOf b_lodgeref_Ints) (ls := []) (.nil) (i := 0) (by kernel_rfl) (inner_of (by kernel_rfl)) (head := h_lodgeref_Ints_0) (ex := e_lodgeref_Ints_0) (fun n (x : Val (slotsTy h_lodgeref_Ints_0)) => g_lodgeref_Ints_0 N n x.1 x.2.1 x.2.2.1) (fun _ => rfl) (fun n x => by kernel_rfl)
theorem F_lodgeref_Ints_ok (S : Nat → Addr) (N : Nat) : ∀ x y, (c_lodgeref_Ints N).g x = some y → FCon Go.Proofs.Tryz.prog E S 53 ps_lodgeref_Ints rs_lodgeref_Ints x y := by
  intro x y h
  exact fun_spec E_ok mixed (cs_lodgeref_Ints_ok S N) (f := 53) (fi := ⟨b_lodgeref_Ints, 22, Go.Proofs.Tryz.f53.results.toList⟩) (by kernel_rfl) (ls := [l_lodgeref_Ints_0 N]) (.cons (by kernel_rfl) (g_lodgeref_Ints_0_ok S N N) (.nil)) (by kernel_rfl) (ps := ps_lodgeref_Ints) (rs := rs_lodgeref_Ints) (Eq.trans (b := F_lodgeref_Ints N x.1) (by kernel_rfl) h)

/-! lodge/lodgeref.Desc -/

abbrev ps_lodgeref_Desc : List Ty := [(.st (.pair (.sl (.int .i64)) .bool))]
abbrev rs_lodgeref_Desc : List Slot := [.ag [.sl (.int .i64), .d .bool]]
abbrev cs_lodgeref_Desc (N : Nat) : List CallSpec := [c_lodgeref_Ints N]
noncomputable abbrev b_lodgeref_Desc : Code := (Go.Proofs.Tryz.f64.body).getD .skip

def F_lodgeref_Desc (N : Nat) (a_0 : (List Int × Bool)) : Option ((List Int × (Bool × Unit)) × Unit) :=
  Option.bind (F_lodgeref_Ints N (a_0).1) fun y0 =>
  cond (decide ((List.length (y0).1) = (List.length (y0).1)))
    (
    some (((y0).1, ((a_0).2, ())), ()))
    (
    none)

abbrev c_lodgeref_Desc (N : Nat) : CallSpec := ⟨64, ps_lodgeref_Desc, rs_lodgeref_Desc, fun x => F_lodgeref_Desc N x.1⟩

theorem cs_lodgeref_Desc_ok (S : Nat → Addr) (N : Nat) : CallsOK Go.Proofs.Tryz.prog E S (cs_lodgeref_Desc N) :=
  .cons (F_lodgeref_Ints_ok S N) (.nil)
theorem F_lodgeref_Desc_ok (S : Nat → Addr) (N : Nat) : ∀ x y, (c_lodgeref_Desc N).g x = some y → FCon Go.Proofs.Tryz.prog E S 64 ps_lodgeref_Desc rs_lodgeref_Desc x y := by
  intro x y h
  exact fun_spec E_ok mixed (cs_lodgeref_Desc_ok S N) (f := 64) (fi := ⟨b_lodgeref_Desc, 9, Go.Proofs.Tryz.f64.results.toList⟩) (by kernel_rfl) (ls := []) (.nil) (by kernel_rfl) (ps := ps_lodgeref_Desc) (rs := rs_lodgeref_Desc) (Eq.trans (b := F_lodgeref_Desc N x.1) (by kernel_rfl) h)

/-! lodge/lodgeref3.in -/

abbrev ps_lodgeref3_in : List Ty := [(.int .i64), .bool]
abbrev rs_lodgeref3_in : List Slot := [.data .bool]
abbrev cs_lodgeref3_in (N : Nat) : List CallSpec := []
noncomputable abbrev b_lodgeref3_in : Code := (Go.Proofs.Tryz.f62.body).getD .skip

def F_lodgeref3_in (N : Nat) (n_0 : Int) (wide_1 : Bool) : Option (Bool × Unit) :=
  cond wide_1
    (
    cond (decide ((-(2147483648 : Int)) ≤ n_0))
      (
      some ((decide (n_0 ≤ (2147483647 : Int))), ()))
      (
      some (false, ())))
    (
    cond (decide ((-(128 : Int)) ≤ n_0))
      (
      some ((decide (n_0 ≤ (127 : Int))), ()))
      (
      some (false, ())))

abbrev c_lodgeref3_in (N : Nat) : CallSpec := ⟨62, ps_lodgeref3_in, rs_lodgeref3_in, fun x => F_lodgeref3_in N x.1 x.2.1⟩

theorem cs_lodgeref3_in_ok (S : Nat → Addr) (N : Nat) : CallsOK Go.Proofs.Tryz.prog E S (cs_lodgeref3_in N) :=
  .nil
theorem F_lodgeref3_in_ok (S : Nat → Addr) (N : Nat) : ∀ x y, (c_lodgeref3_in N).g x = some y → FCon Go.Proofs.Tryz.prog E S 62 ps_lodgeref3_in rs_lodgeref3_in x y := by
  intro x y h
  exact fun_spec E_ok mixed (cs_lodgeref3_in_ok S N) (f := 62) (fi := ⟨b_lodgeref3_in, 18, Go.Proofs.Tryz.f62.results.toList⟩) (by kernel_rfl) (ls := []) (.nil) (by kernel_rfl) (ps := ps_lodgeref3_in) (rs := rs_lodgeref3_in) (Eq.trans (b := F_lodgeref3_in N x.1 x.2.1) (by kernel_rfl) h)

/-! lodge/lodgeref3.narrow -/

abbrev ps_lodgeref3_narrow : List Ty := [(.int .i64)]
abbrev rs_lodgeref3_narrow : List Slot := [.data .bool]
abbrev cs_lodgeref3_narrow (N : Nat) : List CallSpec := [c_lodgeref3_in N]
noncomputable abbrev b_lodgeref3_narrow : Code := (Go.Proofs.Tryz.f81.body).getD .skip

def F_lodgeref3_narrow (N : Nat) (n_0 : Int) : Option (Bool × Unit) :=
  Option.bind (F_lodgeref3_in N n_0 false) fun y0 =>
  some y0

abbrev c_lodgeref3_narrow (N : Nat) : CallSpec := ⟨81, ps_lodgeref3_narrow, rs_lodgeref3_narrow, fun x => F_lodgeref3_narrow N x.1⟩

theorem cs_lodgeref3_narrow_ok (S : Nat → Addr) (N : Nat) : CallsOK Go.Proofs.Tryz.prog E S (cs_lodgeref3_narrow N) :=
  .cons (F_lodgeref3_in_ok S N) (.nil)
theorem F_lodgeref3_narrow_ok (S : Nat → Addr) (N : Nat) : ∀ x y, (c_lodgeref3_narrow N).g x = some y → FCon Go.Proofs.Tryz.prog E S 81 ps_lodgeref3_narrow rs_lodgeref3_narrow x y := by
  intro x y h
  exact fun_spec E_ok mixed (cs_lodgeref3_narrow_ok S N) (f := 81) (fi := ⟨b_lodgeref3_narrow, 5, Go.Proofs.Tryz.f81.results.toList⟩) (by kernel_rfl) (ls := []) (.nil) (by kernel_rfl) (ps := ps_lodgeref3_narrow) (rs := rs_lodgeref3_narrow) (Eq.trans (b := F_lodgeref3_narrow N x.1) (by kernel_rfl) h)


end Go.Proofs.YtnblnlanicpagaaGreatDoor.Lg
