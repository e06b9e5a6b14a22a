/-
  The functions of the seat's program, as plain functions.
-/
import Derived.Test.YtnblnlanicpagaaDoorLgOpAFa
namespace Go.Proofs.YtnblnlanicpagaaDoor.Lg
open Go Go.Eng Go.Proofs
set_option maxRecDepth 100000

/-! lodge/elem.in -/

abbrev ps_elem_in : List Ty := [(.int .i64), (.int .i64), (.int .i64)]
abbrev rs_elem_in : List Slot := [.data .bool]
abbrev cs_elem_in (N : Nat) : List CallSpec := []
noncomputable abbrev b_elem_in : Code := (Go.Proofs.Tryd.f69.body).getD .skip

def F_elem_in (N : Nat) (n_0 : Int) (from_1 : Int) (to_2 : Int) : Option (Bool × Unit) :=
  cond (decide (from_1 ≤ n_0))
    (
    some ((decide (n_0 ≤ to_2)), ()))
    (
    some (false, ()))

abbrev c_elem_in (N : Nat) : CallSpec := ⟨69, ps_elem_in, rs_elem_in, fun x => F_elem_in N x.1 x.2.1 x.2.2.1⟩

theorem cs_elem_in_ok (S : Nat → Addr) (N : Nat) : CallsOK Go.Proofs.Tryd.prog E S (cs_elem_in N) :=
  .nil
theorem F_elem_in_ok (S : Nat → Addr) (N : Nat) : ∀ x y, (c_elem_in N).g x = some y → FCon Go.Proofs.Tryd.prog E S 69 ps_elem_in rs_elem_in x y := by
  intro x y h
  exact fun_spec E_ok mixed (cs_elem_in_ok S N) (f := 69) (fi := ⟨b_elem_in, 15, Go.Proofs.Tryd.f69.results.toList⟩) (by kernel_rfl) (ls := []) (.nil) (by kernel_rfl) (ps := ps_elem_in) (rs := rs_elem_in) (Eq.trans (b := F_elem_in N x.1 x.2.1 x.2.2.1) (by kernel_rfl) h)

/-! lodge/elem.of -/

abbrev ps_elem_of : List Ty := [(.int .i64), .bool]
abbrev rs_elem_of : List Slot := [.data .bool]
abbrev cs_elem_of (N : Nat) : List CallSpec := [c_elem_in N]
noncomputable abbrev b_elem_of : Code := (Go.Proofs.Tryd.f68.body).getD .skip

def F_elem_of (N : Nat) (n_0 : Int) (wide_1 : Bool) : Option (Bool × Unit) :=
  cond wide_1
    (
    Option.bind (F_elem_in N n_0 (-(2147483648 : Int)) (2147483647 : Int)) fun y0 =>
    some y0)
    (
    Option.bind (F_elem_in N n_0 (-(128 : Int)) (127 : Int)) fun y1 =>
    some y1)

abbrev c_elem_of (N : Nat) : CallSpec := ⟨68, ps_elem_of, rs_elem_of, fun x => F_elem_of N x.1 x.2.1⟩

theorem cs_elem_of_ok (S : Nat → Addr) (N : Nat) : CallsOK Go.Proofs.Tryd.prog E S (cs_elem_of N) :=
  .cons (F_elem_in_ok S N) (.nil)
theorem F_elem_of_ok (S : Nat → Addr) (N : Nat) : ∀ x y, (c_elem_of N).g x = some y → FCon Go.Proofs.Tryd.prog E S 68 ps_elem_of rs_elem_of x y := by
  intro x y h
  exact fun_spec E_ok mixed (cs_elem_of_ok S N) (f := 68) (fi := ⟨b_elem_of, 10, Go.Proofs.Tryd.f68.results.toList⟩) (by kernel_rfl) (ls := []) (.nil) (by kernel_rfl) (ps := ps_elem_of) (rs := rs_elem_of) (Eq.trans (b := F_elem_of N x.1 x.2.1) (by kernel_rfl) h)

/-! lodge/elem.Result -/

abbrev ps_elem_Result : List Ty := [(.int .i64), (.sl (.int .i64)), (.sl (.st (.pair (.sl (.int .i64)) .bool)))]
abbrev rs_elem_Result : List Slot := [.ag [.sl (.int .i64), .d .bool], .data .err]
abbrev cs_elem_Result (N : Nat) : List CallSpec := [c_shape_Valid N, c_shape_Clone N, c_shape_Same N, c_elem_counts N, c_elem_in N, c_elem_of N]
noncomputable abbrev b_elem_Result : Code := (Go.Proofs.Tryd.f37.body).getD .skip

abbrev h_elem_Result_0 : List Slot := [.data (.int .i64), .data (.sl (.int .i64)), .data (.sl (.st (.pair (.sl (.int .i64)) .bool))), .dead, .dead, .dead, .box [.sl (.int .i64), .d .bool], .dead, .data (.int .i64), .dead, .dead, .dead, .dead, .dead, .dead, .dead, .dead, .dead, .dead, .dead, .dead, .dead, .dead, .dead, .dead, .dead, .dead, .dead, .dead, .dead, .dead, .dead, .dead, .dead, .dead, .dead, .dead, .dead, .dead, .dead, .data (.sl (.st (.pair (.sl (.int .i64)) .bool))), .data (.int .i64), .data (.int .i64), .dead, .dead, .dead, .dead, .dead, .dead, .dead, .dead, .dead, .dead, .dead, .dead, .dead, .dead, .dead, .dead, .dead, .dead, .dead, .dead, .dead, .dead, .dead, .dead, .dead, .dead, .dead, .dead, .dead, .dead, .dead, .dead, .dead, .dead, .dead, .dead, .dead, .dead, .dead, .dead, .dead, .dead, .dead, .dead, .dead, .dead, .dead, .dead, .dead, .dead, .dead, .dead, .dead, .dead, .dead, .dead, .dead, .dead, .dead, .dead, .dead, .dead, .dead, .dead, .dead, .dead, .dead, .dead, .dead, .dead, .dead, .dead, .dead, .dead, .dead, .dead, .dead, .dead, .dead, .dead, .dead, .dead, .dead, .dead, .dead, .dead, .dead, .dead, .dead, .dead, .dead, .dead, .dead, .dead, .dead, .dead, .dead, .dead, .dead, .dead, .dead, .dead, .dead]
abbrev e_elem_Result_0 : List (AX × List Slot) := [(AX.exit 0, [.data (.int .i64), .data (.sl (.int .i64)), .data (.sl (.st (.pair (.sl (.int .i64)) .bool))), .dead, .dead, .dead, .box [.sl (.int .i64), .d .bool], .dead, .data (.int .i64), .dead, .dead, .dead, .dead, .dead, .dead, .dead, .dead, .dead, .dead, .dead, .dead, .dead, .dead, .dead, .dead, .dead, .dead, .dead, .dead, .dead, .dead, .dead, .dead, .dead, .dead, .dead, .dead, .dead, .dead, .dead, .dead, .dead, .dead, .dead, .dead, .dead, .dead, .dead, .dead, .dead, .dead, .dead, .dead, .dead, .dead, .dead, .dead, .dead, .dead, .dead, .dead, .dead, .dead, .dead, .dead, .dead, .dead, .dead, .dead, .dead, .dead, .dead, .dead, .dead, .dead, .dead, .dead, .dead, .dead, .dead, .dead, .dead, .dead, .dead, .dead, .dead, .dead, .dead, .dead, .dead, .dead, .dead, .dead, .dead, .dead, .dead, .dead, .dead, .dead, .dead, .dead, .dead, .dead, .dead, .dead, .dead, .dead, .dead, .dead, .dead, .dead, .dead, .dead, .dead, .dead, .dead, .dead, .dead, .dead, .dead, .dead, .dead, .dead, .dead, .dead, .dead, .dead, .dead, .dead, .dead, .dead, .dead, .dead, .dead, .dead, .dead, .dead, .dead, .dead, .dead, .dead, .dead, .dead, .dead, .dead, .dead]), (AX.ret, [.dead, .dead, .dead, .dead, .dead, .dead, .box [.sl (.int .i64), .d .bool], .data .err, .dead, .dead, .dead, .dead, .dead, .dead, .dead, .dead, .dead, .dead, .dead, .dead, .dead, .dead, .dead, .dead, .dead, .dead, .dead, .dead, .dead, .dead, .dead, .dead, .dead, .dead, .dead, .dead, .dead, .dead, .dead, .dead, .dead, .dead, .dead, .dead, .dead, .dead, .dead, .dead, .dead, .dead, .dead, .dead, .dead, .dead, .dead, .dead, .dead, .dead, .dead, .dead, .dead, .dead, .dead, .dead, .dead, .dead, .dead, .dead, .dead, .dead, .dead, .dead, .dead, .dead, .dead, .dead, .dead, .dead, .dead, .dead, .dead, .dead, .dead, .dead, .dead, .dead, .dead, .dead, .dead, .dead, .dead, .dead, .dead, .dead, .dead, .dead, .dead, .dead, .dead, .dead, .dead, .dead, .dead, .dead, .dead, .dead, .dead, .dead, .dead, .dead, .dead, .dead, .dead, .dead, .dead, .dead, .dead, .dead, .dead, .dead, .dead, .dead, .dead, .dead, .dead, .dead, .dead, .dead, .dead, .dead, .dead, .dead, .dead, .dead, .dead, .dead, .dead, .dead, .dead, .dead, .dead, .dead, .dead, .dead, .dead, .dead])]
def g_elem_Result_0 (N : Nat) : Nat → Int → List Int → List ((List Int × Bool)) → (List Int × (Bool × Unit)) → Int → List ((List Int × Bool)) → Int → Int → Option (Sum (Int × (List Int × (List ((List Int × Bool)) × ((List Int × (Bool × Unit)) × (Int × Unit))))) ((List Int × (Bool × Unit)) × (Er × Unit)))
  | 0, _, _, _, _, _, _, _, _ => none
  | n + 1, op_0, args_1, ins_2, t_6, k_8, t_40, t_41, t_42 =>
    cond (decide (t_42 < t_41))
      (
      cond (decide ((0 : Int) ≤ t_42))
        (
        cond (decide ((Int.toNat t_42) < (List.length t_40)))
          (
          Option.bind (F_shape_Valid N (List.getD t_40 (Int.toNat t_42) (([] : List Int), false))) fun y3 =>
          cond (Bool.not (Go.Eng.Er.isNil (y3).1))
            (
            some (Sum.inr ((([] : List Int), (false, ())), y3)))
            (
            cond (decide ((List.length (t_6).1) = (List.length (t_6).1)))
              (
              (g_elem_Result_0 N n op_0 args_1 ins_2 t_6 k_8 t_40 t_41 (wi64 (t_42 + (1 : Int)))))
              (
              none)))
          (
          none))
        (
        none))
      (
      cond (decide ((List.length (t_6).1) = (List.length (t_6).1)))
        (
        some (Sum.inl (op_0, (args_1, (ins_2, (t_6, (k_8, ())))))))
        (
        none))

abbrev j_elem_Result : Joins := [(15, [(AX.normal, [.dead, .dead, .dead, .dead, .dead, .dead, .box [.sl (.int .i64), .d .bool], .dead, .dead, .dead, .dead, .dead, .dead, .dead, .box [.d (.st (.pair (.sl (.int .i64)) .bool))], .data .bool, .data .bool, .dead, .dead, .dead, .dead, .dead, .dead, .dead, .dead, .dead, .dead, .dead, .dead, .dead, .dead, .dead, .dead, .dead, .dead, .dead, .dead, .dead, .dead, .dead, .dead, .dead, .dead, .dead, .dead, .dead, .dead, .dead, .dead, .dead, .dead, .dead, .dead, .dead, .dead, .dead, .dead, .dead, .dead, .dead, .dead, .dead, .dead, .dead, .dead, .dead, .dead, .dead, .dead, .dead, .dead, .dead, .dead, .dead, .dead, .dead, .dead, .dead, .dead, .dead, .dead, .dead, .dead, .dead, .dead, .dead, .dead, .dead, .dead, .dead, .dead, .dead, .dead, .dead, .dead, .dead, .dead, .dead, .dead, .dead, .dead, .dead, .dead, .dead, .dead, .dead, .dead, .dead, .dead, .dead, .dead, .dead, .dead, .dead, .dead, .dead, .dead, .dead, .dead, .dead, .dead, .dead, .dead, .dead, .dead, .dead, .dead, .dead, .dead, .dead, .dead, .dead, .dead, .dead, .dead, .dead, .dead, .dead, .dead, .dead, .dead, .dead, .dead, .dead, .dead, .dead])]),
  (12, [(AX.normal, [.data (.int .i64), .data (.sl (.int .i64)), .dead, .dead, .dead, .dead, .box [.sl (.int .i64), .d .bool], .dead, .dead, .dead, .dead, .dead, .dead, .dead, .box [.d (.st (.pair (.sl (.int .i64)) .bool))], .dead, .dead, .dead, .dead, .dead, .dead, .dead, .dead, .dead, .dead, .dead, .dead, .dead, .dead, .dead, .dead, .dead, .dead, .dead, .dead, .dead, .dead, .dead, .dead, .dead, .dead, .dead, .dead, .dead, .dead, .dead, .dead, .dead, .dead, .dead, .dead, .dead, .dead, .dead, .dead, .dead, .dead, .dead, .dead, .dead, .dead, .dead, .dead, .dead, .dead, .dead, .dead, .dead, .dead, .dead, .dead, .dead, .dead, .dead, .dead, .dead, .dead, .dead, .dead, .dead, .dead, .dead, .data .bool, .dead, .dead, .dead, .dead, .dead, .dead, .dead, .dead, .dead, .dead, .dead, .dead, .dead, .dead, .dead, .dead, .dead, .dead, .dead, .dead, .dead, .dead, .dead, .dead, .dead, .dead, .dead, .dead, .dead, .dead, .dead, .dead, .dead, .dead, .dead, .dead, .dead, .dead, .dead, .dead, .dead, .dead, .dead, .dead, .dead, .dead, .dead, .dead, .dead, .dead, .dead, .dead, .dead, .dead, .dead, .dead, .dead, .dead, .dead, .dead, .dead, .dead, .dead])]),
  (6, [(AX.normal, [.data (.int .i64), .data (.sl (.int .i64)), .data (.sl (.st (.pair (.sl (.int .i64)) .bool))), .dead, .dead, .dead, .box [.sl (.int .i64), .d .bool], .dead, .data (.int .i64), .dead, .dead, .dead, .dead, .dead, .dead, .dead, .dead, .dead, .dead, .dead, .dead, .dead, .dead, .dead, .dead, .dead, .dead, .dead, .dead, .dead, .dead, .dead, .dead, .dead, .dead, .dead, .dead, .data .bool, .dead, .dead, .dead, .dead, .dead, .dead, .dead, .dead, .dead, .dead, .dead, .dead, .dead, .dead, .dead, .dead, .dead, .dead, .dead, .dead, .dead, .dead, .dead, .dead, .dead, .dead, .dead, .dead, .dead, .dead, .dead, .dead, .dead, .dead, .dead, .dead, .dead, .dead, .dead, .dead, .dead, .dead, .dead, .dead, .dead, .dead, .dead, .dead, .dead, .dead, .dead, .dead, .dead, .dead, .dead, .dead, .dead, .dead, .dead, .dead, .dead, .dead, .dead, .dead, .dead, .dead, .dead, .dead, .dead, .dead, .dead, .dead, .dead, .dead, .dead, .dead, .dead, .dead, .dead, .dead, .dead, .dead, .dead, .dead, .dead, .dead, .dead, .dead, .dead, .dead, .dead, .dead, .dead, .dead, .dead, .dead, .dead, .dead, .dead, .dead, .dead, .dead, .dead, .dead, .dead, .dead, .dead, .dead])])]
def F_elem_Result (N : Nat) (op_0 : Int) (args_1 : List Int) (ins_2 : List ((List Int × Bool))) : Option ((List Int × (Bool × Unit)) × (Er × Unit)) :=
  Option.bind (F_elem_counts N op_0) fun y0 =>
  cond (Bool.not (((y0).2).2).1)
    (
    some ((([] : List Int), (false, ())), ((Go.Eng.Er.s ErrKind), ())))
    (
    Option.bind (
        cond (decide (@Ne Int (Nat.cast (List.length args_1) : Int) ((y0).2).1))
          (
          some (op_0, (args_1, (ins_2, ((([] : List Int), (false, ())), ((y0).1, (true, ())))))))
          (
          some (op_0, (args_1, (ins_2, ((([] : List Int), (false, ())), ((y0).1, ((decide (@Ne Int (Nat.cast (List.length ins_2) : Int) (y0).1)), ())))))))) fun y1 =>
    cond ((((((y1).2).2).2).2).2).1
      (
      some ((([] : List Int), (false, ())), ((Go.Eng.Er.s ErrShape), ())))
      (
      cond (decide ((List.length (((((y1).2).2).2).1).1) = (List.length (((((y1).2).2).2).1).1)))
        (
        Option.bind (g_elem_Result_0 N N (y1).1 ((y1).2).1 (((y1).2).2).1 ((((y1).2).2).2).1 (((((y1).2).2).2).2).1 (((y1).2).2).1 (Nat.cast (List.length (((y1).2).2).1) : Int) (0 : Int)) fun y2 =>
        Sum.elim (fun y3 =>
          cond (decide (0 < (List.length (((y3).2).2).1)))
            (
            Option.bind (
                cond (decide ((((((y3).2).2).2).2).1 = (2 : Int)))
                  (
                  cond (decide (1 < (List.length (((y3).2).2).1)))
                    (
                    Option.bind (F_shape_Same N (List.getD (((y3).2).2).1 0 (([] : List Int), false)) (List.getD (((y3).2).2).1 1 (([] : List Int), false))) fun y4 =>
                    cond (Bool.not (y4).1)
                      (
                      cond (decide ((List.length (((((y3).2).2).2).1).1) = (List.length (((((y3).2).2).2).1).1)))
                        (
                        some ((y3).1, (((y3).2).1, (((((y3).2).2).2).1, (((List.getD (((y3).2).2).1 0 (([] : List Int), false)), ()), (true, ()))))))
                        (
                        none))
                      (
                      cond (decide ((y3).1 = (10 : Int)))
                        (
                        cond (Bool.not ((List.getD (((y3).2).2).1 0 (([] : List Int), false))).2)
                          (
                          cond (decide ((List.length (((((y3).2).2).2).1).1) = (List.length (((((y3).2).2).2).1).1)))
                            (
                            some ((y3).1, (((y3).2).1, (((((y3).2).2).2).1, (((List.getD (((y3).2).2).1 0 (([] : List Int), false)), ()), (true, ()))))))
                            (
                            none))
                          (
                          cond (decide ((y3).1 = (11 : Int)))
                            (
                            cond (decide ((List.length (((((y3).2).2).2).1).1) = (List.length (((((y3).2).2).2).1).1)))
                              (
                              some ((y3).1, (((y3).2).1, (((((y3).2).2).2).1, (((List.getD (((y3).2).2).1 0 (([] : List Int), false)), ()), (((List.getD (((y3).2).2).1 0 (([] : List Int), false))).2, ()))))))
                              (
                              none))
                            (
                            cond (decide ((List.length (((((y3).2).2).2).1).1) = (List.length (((((y3).2).2).2).1).1)))
                              (
                              some ((y3).1, (((y3).2).1, (((((y3).2).2).2).1, (((List.getD (((y3).2).2).1 0 (([] : List Int), false)), ()), (false, ()))))))
                              (
                              none))))
                        (
                        cond (decide ((y3).1 = (11 : Int)))
                          (
                          cond (decide ((List.length (((((y3).2).2).2).1).1) = (List.length (((((y3).2).2).2).1).1)))
                            (
                            some ((y3).1, (((y3).2).1, (((((y3).2).2).2).1, (((List.getD (((y3).2).2).1 0 (([] : List Int), false)), ()), (((List.getD (((y3).2).2).1 0 (([] : List Int), false))).2, ()))))))
                            (
                            none))
                          (
                          cond (decide ((List.length (((((y3).2).2).2).1).1) = (List.length (((((y3).2).2).2).1).1)))
                            (
                            some ((y3).1, (((y3).2).1, (((((y3).2).2).2).1, (((List.getD (((y3).2).2).1 0 (([] : List Int), false)), ()), (false, ()))))))
                            (
                            none)))))
                    (
                    none))
                  (
                  cond (decide ((y3).1 = (10 : Int)))
                    (
                    cond (Bool.not ((List.getD (((y3).2).2).1 0 (([] : List Int), false))).2)
                      (
                      cond (decide ((List.length (((((y3).2).2).2).1).1) = (List.length (((((y3).2).2).2).1).1)))
                        (
                        some ((y3).1, (((y3).2).1, (((((y3).2).2).2).1, (((List.getD (((y3).2).2).1 0 (([] : List Int), false)), ()), (true, ()))))))
                        (
                        none))
                      (
                      cond (decide ((y3).1 = (11 : Int)))
                        (
                        cond (decide ((List.length (((((y3).2).2).2).1).1) = (List.length (((((y3).2).2).2).1).1)))
                          (
                          some ((y3).1, (((y3).2).1, (((((y3).2).2).2).1, (((List.getD (((y3).2).2).1 0 (([] : List Int), false)), ()), (((List.getD (((y3).2).2).1 0 (([] : List Int), false))).2, ()))))))
                          (
                          none))
                        (
                        cond (decide ((List.length (((((y3).2).2).2).1).1) = (List.length (((((y3).2).2).2).1).1)))
                          (
                          some ((y3).1, (((y3).2).1, (((((y3).2).2).2).1, (((List.getD (((y3).2).2).1 0 (([] : List Int), false)), ()), (false, ()))))))
                          (
                          none))))
                    (
                    cond (decide ((y3).1 = (11 : Int)))
                      (
                      cond (decide ((List.length (((((y3).2).2).2).1).1) = (List.length (((((y3).2).2).2).1).1)))
                        (
                        some ((y3).1, (((y3).2).1, (((((y3).2).2).2).1, (((List.getD (((y3).2).2).1 0 (([] : List Int), false)), ()), (((List.getD (((y3).2).2).1 0 (([] : List Int), false))).2, ()))))))
                        (
                        none))
                      (
                      cond (decide ((List.length (((((y3).2).2).2).1).1) = (List.length (((((y3).2).2).2).1).1)))
                        (
                        some ((y3).1, (((y3).2).1, (((((y3).2).2).2).1, (((List.getD (((y3).2).2).1 0 (([] : List Int), false)), ()), (false, ()))))))
                        (
                        none))))) fun y5 =>
            cond (((((y5).2).2).2).2).1
              (
              some ((([] : List Int), (false, ())), ((Go.Eng.Er.s ErrShape), ())))
              (
              Option.bind (
                  cond (decide ((y5).1 = (9 : Int)))
                    (
                    cond (decide (0 < (List.length ((y5).2).1)))
                      (
                      cond (decide (1 < (List.length ((y5).2).1)))
                        (
                        cond (decide ((List.getD ((y5).2).1 0 (0 : Int)) ≤ (List.getD ((y5).2).1 1 (0 : Int))))
                          (
                          cond (decide (0 < (List.length ((y5).2).1)))
                            (
                            Option.bind (F_elem_of N (List.getD ((y5).2).1 0 (0 : Int)) ((((((y5).2).2).2).1).1).2) fun y6 =>
                            cond (y6).1
                              (
                              cond (decide (1 < (List.length ((y5).2).1)))
                                (
                                Option.bind (F_elem_of N (List.getD ((y5).2).1 1 (0 : Int)) ((((((y5).2).2).2).1).1).2) fun y7 =>
                                cond (decide ((List.length ((((y5).2).2).1).1) = (List.length ((((y5).2).2).1).1)))
                                  (
                                  some ((((y5).2).2).1, (((((y5).2).2).2).1, ((y7).1, (((((((y5).2).2).2).1).1).2, ())))))
                                  (
                                  none))
                                (
                                none))
                              (
                              cond (decide ((List.length ((((y5).2).2).1).1) = (List.length ((((y5).2).2).1).1)))
                                (
                                some ((((y5).2).2).1, (((((y5).2).2).2).1, (false, (((((((y5).2).2).2).1).1).2, ())))))
                                (
                                none)))
                            (
                            none))
                          (
                          cond (decide ((List.length ((((y5).2).2).1).1) = (List.length ((((y5).2).2).1).1)))
                            (
                            some ((((y5).2).2).1, (((((y5).2).2).2).1, (false, (((((((y5).2).2).2).1).1).2, ())))))
                            (
                            none)))
                        (
                        none))
                      (
                      none))
                    (
                    cond (decide ((y5).1 = (10 : Int)))
                      (
                      cond (decide (0 < (List.length ((y5).2).1)))
                        (
                        Option.bind (F_elem_in N (List.getD ((y5).2).1 0 (0 : Int)) (0 : Int) (2147483647 : Int)) fun y8 =>
                        cond (y8).1
                          (
                          cond (decide (1 < (List.length ((y5).2).1)))
                            (
                            Option.bind (F_elem_in N (List.getD ((y5).2).1 1 (0 : Int)) (0 : Int) (62 : Int)) fun y9 =>
                            cond (y9).1
                              (
                              cond (decide (2 < (List.length ((y5).2).1)))
                                (
                                Option.bind (F_elem_of N (List.getD ((y5).2).1 2 (0 : Int)) false) fun y10 =>
                                cond (decide ((List.length ((((y5).2).2).1).1) = (List.length ((((y5).2).2).1).1)))
                                  (
                                  some ((((y5).2).2).1, (((((y5).2).2).2).1, ((y10).1, (false, ())))))
                                  (
                                  none))
                                (
                                none))
                              (
                              cond (decide ((List.length ((((y5).2).2).1).1) = (List.length ((((y5).2).2).1).1)))
                                (
                                some ((((y5).2).2).1, (((((y5).2).2).2).1, (false, (false, ())))))
                                (
                                none)))
                            (
                            none))
                          (
                          cond (decide ((List.length ((((y5).2).2).1).1) = (List.length ((((y5).2).2).1).1)))
                            (
                            some ((((y5).2).2).1, (((((y5).2).2).2).1, (false, (false, ())))))
                            (
                            none)))
                        (
                        none))
                      (
                      cond (decide ((y5).1 = (11 : Int)))
                        (
                        cond (decide (0 < (List.length ((y5).2).1)))
                          (
                          Option.bind (F_elem_of N (List.getD ((y5).2).1 0 (0 : Int)) false) fun y11 =>
                          cond (decide ((List.length ((((y5).2).2).1).1) = (List.length ((((y5).2).2).1).1)))
                            (
                            some ((((y5).2).2).1, (((((y5).2).2).2).1, ((y11).1, (true, ())))))
                            (
                            none))
                          (
                          none))
                        (
                        cond (decide ((List.length ((((y5).2).2).1).1) = (List.length ((((y5).2).2).1).1)))
                          (
                          some ((((y5).2).2).1, (((((y5).2).2).2).1, (true, (((((((y5).2).2).2).1).1).2, ())))))
                          (
                          none))))) fun y12 =>
              cond (Bool.not (((y12).2).2).1)
                (
                some ((([] : List Int), (false, ())), ((Go.Eng.Er.s ErrRange), ())))
                (
                Option.bind (F_shape_Clone N (((y12).2).1).1) fun y13 =>
                cond (decide ((List.length ((y13).1).1) = (List.length ((y13).1).1)))
                  (
                  some ((((y13).1).1, (((y12).2).2).2), (Go.Eng.Er.nil, ())))
                  (
                  none))))
            (
            none))
          (fun y14 =>
          cond (decide ((List.length ((y14).1).1) = (List.length ((y14).1).1)))
            (
            some y14)
            (
            none)) y2)
        (
        none)))

abbrev c_elem_Result (N : Nat) : CallSpec := ⟨37, ps_elem_Result, rs_elem_Result, fun x => F_elem_Result N x.1 x.2.1 x.2.2.1⟩
abbrev l_elem_Result_0 (N : Nat) : LoopSpec := ⟨0, h_elem_Result_0, e_elem_Result_0, fun x => g_elem_Result_0 N N x.1 x.2.1 x.2.2.1 x.2.2.2.1 x.2.2.2.2.1 x.2.2.2.2.2.1 x.2.2.2.2.2.2.1 x.2.2.2.2.2.2.2.1⟩

theorem cs_elem_Result_ok (S : Nat → Addr) (N : Nat) : CallsOK Go.Proofs.Tryd.prog E S (cs_elem_Result N) :=
  .cons (F_shape_Valid_ok S N) (.cons (F_shape_Clone_ok S N) (.cons (F_shape_Same_ok S N) (.cons (F_elem_counts_ok S N) (.cons (F_elem_in_ok S N) (.cons (F_elem_of_ok S N) (.nil))))))
noncomputable abbrev b_elem_Result_0 : Code := (loopsOf b_elem_Result).getD 0 .skip
theorem g_elem_Result_0_ok (S : Nat → Addr) (N : Nat) : ∀ n x y, (fun (x : Val (slotsTy h_elem_Result_0)) => g_elem_Result_0 N n x.1 x.2.1 x.2.2.1 x.2.2.2.1 x.2.2.2.2.1 x.2.2.2.2.2.1 x.2.2.2.2.2.2.1 x.2.2.2.2.2.2.2.1) x = some y → LoopCon Go.Proofs.Tryd.prog E S b_elem_Result_0 (encSlots h_elem_Result_0 x) (encEx e_elem_Result_0 y).1 (encEx e_elem_Result_0 y).2 :=
  loop_spec E_ok mixed (cs_elem_Result_ok S N) (all := loopsOf b_elem_Result) (ls := []) (.nil) (i := 0) (by kernel_rfl) (inner_of (by kernel_rfl)) (head := h_elem_Result_0) (ex := e_elem_Result_0) (fun n (x : Val (slotsTy h_elem_Result_0)) => g_elem_Result_0 N n x.1 x.2.1 x.2.2.1 x.2.2.2.1 x.2.2.2.2.1 x.2.2.2.2.2.1 x.2.2.2.2.2.2.1 x.2.2.2.2.2.2.2.1) (fun _ => rfl) (fun n x => by kernel_rfl)
theorem F_elem_Result_ok (S : Nat → Addr) (N : Nat) : ∀ x y, (c_elem_Result N).g x = some y → FCon Go.Proofs.Tryd.prog E S 37 ps_elem_Result rs_elem_Result x y := by
  intro x y h
  exact fun_specJ E_ok mixed (cs_elem_Result_ok S N) (f := 37) (fi := ⟨b_elem_Result, 146, Go.Proofs.Tryd.f37.results.toList⟩) (by kernel_rfl) (ls := [l_elem_Result_0 N]) (.cons (by kernel_rfl) (g_elem_Result_0_ok S N N) (.nil)) (js := j_elem_Result) (by kernel_rfl) (ps := ps_elem_Result) (rs := rs_elem_Result) (Eq.trans (b := F_elem_Result N x.1 x.2.1 x.2.2.1) (by kernel_rfl) h)

/-! lodge/op.Result -/

abbrev ps_op_Result : List Ty := [(.int .i64), (.sl (.int .i64)), (.sl (.st (.pair (.sl (.int .i64)) .bool)))]
abbrev rs_op_Result : List Slot := [.data (.st (.pair (.sl (.int .i64)) .bool)), .data .err]
abbrev cs_op_Result (N : Nat) : List CallSpec := [c_op_Known N, c_op_Ins N, c_op_Args N, c_mat_Result N, c_conv_Result N, c_pool_Result N, c_soft_Result N, c_op_reshape N, c_op_turn N, c_elem_Result N]
noncomputable abbrev b_op_Result : Code := (Go.Proofs.Tryd.f11.body).getD .skip

abbrev j_op_Result : Joins := [(16, [(AX.normal, [.data (.int .i64), .data (.sl (.int .i64)), .data (.sl (.st (.pair (.sl (.int .i64)) .bool))), .dead, .dead, .dead, .box [.sl (.int .i64), .d .bool], .dead, .dead, .dead, .dead, .dead, .dead, .dead, .dead, .dead, .dead, .dead, .dead, .dead, .dead, .dead, .dead, .dead, .dead, .dead, .dead, .dead, .dead, .dead, .dead, .data (.int .i64), .dead, .dead, .dead, .dead, .dead, .dead, .dead, .dead, .dead, .dead, .dead, .dead, .dead, .dead, .dead, .dead, .dead, .dead, .dead, .dead, .dead, .dead, .dead, .dead, .dead, .dead, .dead, .dead, .dead, .dead, .dead, .dead, .dead, .dead, .dead, .dead, .dead, .dead, .dead, .data .bool, .dead, .dead, .dead, .dead, .dead, .dead, .dead, .dead, .dead, .dead, .dead, .dead, .dead, .dead, .dead, .dead, .dead, .dead, .dead, .dead, .dead, .dead, .dead, .dead, .dead, .dead, .dead, .dead, .dead, .dead, .dead, .dead])]),
  (13, [(AX.normal, [.data (.int .i64), .data (.sl (.int .i64)), .data (.sl (.st (.pair (.sl (.int .i64)) .bool))), .dead, .dead, .dead, .box [.sl (.int .i64), .d .bool], .dead, .dead, .dead, .dead, .dead, .dead, .dead, .dead, .dead, .dead, .dead, .dead, .dead, .dead, .dead, .dead, .dead, .dead, .dead, .dead, .dead, .dead, .dead, .dead, .data (.int .i64), .dead, .dead, .dead, .dead, .dead, .dead, .dead, .dead, .dead, .dead, .dead, .dead, .dead, .dead, .dead, .dead, .dead, .dead, .dead, .dead, .dead, .dead, .dead, .dead, .dead, .dead, .dead, .dead, .dead, .data .bool, .dead, .dead, .dead, .dead, .dead, .dead, .dead, .dead, .dead, .dead, .dead, .dead, .dead, .dead, .dead, .dead, .dead, .dead, .dead, .dead, .dead, .dead, .dead, .dead, .dead, .dead, .dead, .dead, .dead, .dead, .dead, .dead, .dead, .dead, .dead, .dead, .dead, .dead, .dead, .dead, .dead, .dead])]),
  (5, [(AX.normal, [.data (.int .i64), .data (.sl (.int .i64)), .data (.sl (.st (.pair (.sl (.int .i64)) .bool))), .dead, .dead, .dead, .box [.sl (.int .i64), .d .bool], .dead, .dead, .dead, .dead, .dead, .dead, .dead, .dead, .dead, .dead, .dead, .dead, .dead, .dead, .dead, .dead, .dead, .dead, .dead, .dead, .dead, .data .bool, .dead, .dead, .dead, .dead, .dead, .dead, .dead, .dead, .dead, .dead, .dead, .dead, .dead, .dead, .dead, .dead, .dead, .dead, .dead, .dead, .dead, .dead, .dead, .dead, .dead, .dead, .dead, .dead, .dead, .dead, .dead, .dead, .dead, .dead, .dead, .dead, .dead, .dead, .dead, .dead, .dead, .dead, .dead, .dead, .dead, .dead, .dead, .dead, .dead, .dead, .dead, .dead, .dead, .dead, .dead, .dead, .dead, .dead, .dead, .dead, .dead, .dead, .dead, .dead, .dead, .dead, .dead, .dead, .dead, .dead, .dead, .dead, .dead, .dead, .dead])])]
def F_op_Result (N : Nat) (op_0 : Int) (args_1 : List Int) (ins_2 : List ((List Int × Bool))) : Option ((List Int × Bool) × (Er × Unit)) :=
  Option.bind (F_op_Known N op_0) fun y0 =>
  cond (Bool.not (y0).1)
    (
    some ((([] : List Int), false), ((Go.Eng.Er.s ErrKind), ())))
    (
    Option.bind (
        Option.bind (F_op_Ins N op_0) fun y1 =>
        cond (decide (@Ne Int (Nat.cast (List.length ins_2) : Int) (y1).1))
          (
          some (op_0, (args_1, (ins_2, ((([] : List Int), (false, ())), (true, ()))))))
          (
          cond (decide (@Ne Int op_0 (18 : Int)))
            (
            Option.bind (F_op_Args N op_0) fun y2 =>
            some (op_0, (args_1, (ins_2, ((([] : List Int), (false, ())), ((decide (@Ne Int (Nat.cast (List.length args_1) : Int) (y2).1)), ()))))))
            (
            some (op_0, (args_1, (ins_2, ((([] : List Int), (false, ())), (false, ())))))))) fun y3 =>
    cond (((((y3).2).2).2).2).1
      (
      some ((([] : List Int), false), ((Go.Eng.Er.s ErrShape), ())))
      (
      cond (decide ((y3).1 = (12 : Int)))
        (
        cond (decide (0 < (List.length ((y3).2).1)))
          (
          cond (decide (1 < (List.length ((y3).2).1)))
            (
            cond (decide (0 < (List.length (((y3).2).2).1)))
              (
              cond (decide (1 < (List.length (((y3).2).2).1)))
                (
                Option.bind (F_mat_Result N (List.getD ((y3).2).1 0 (0 : Int)) (List.getD ((y3).2).1 1 (0 : Int)) (List.getD (((y3).2).2).1 0 (([] : List Int), false)) (List.getD (((y3).2).2).1 1 (([] : List Int), false))) fun y4 =>
                some y4)
                (
                none))
              (
              none))
            (
            none))
          (
          none))
        (
        cond (decide ((y3).1 = (13 : Int)))
          (
          cond (decide (0 < (List.length (((y3).2).2).1)))
            (
            cond (decide (1 < (List.length (((y3).2).2).1)))
              (
              Option.bind (F_conv_Result N ((y3).2).1 (List.getD (((y3).2).2).1 0 (([] : List Int), false)) (List.getD (((y3).2).2).1 1 (([] : List Int), false))) fun y5 =>
              some y5)
              (
              none))
            (
            none))
          (
          Option.bind (
              cond (decide ((y3).1 = (14 : Int)))
                (
                cond (decide ((List.length (((((y3).2).2).2).1).1) = (List.length (((((y3).2).2).2).1).1)))
                  (
                  some ((y3).1, (((y3).2).1, ((((y3).2).2).1, (((((y3).2).2).2).1, ((y3).1, (true, ())))))))
                  (
                  none))
                (
                cond (decide ((List.length (((((y3).2).2).2).1).1) = (List.length (((((y3).2).2).2).1).1)))
                  (
                  some ((y3).1, (((y3).2).1, ((((y3).2).2).1, (((((y3).2).2).2).1, ((y3).1, ((decide ((y3).1 = (15 : Int))), ())))))))
                  (
                  none))) fun y6 =>
          cond ((((((y6).2).2).2).2).2).1
            (
            cond (decide (0 < (List.length (((y6).2).2).1)))
              (
              Option.bind (F_pool_Result N ((y6).2).1 (List.getD (((y6).2).2).1 0 (([] : List Int), false))) fun y7 =>
              cond (decide (((0 : Nat) + (List.length ((y7).1).1)) ≤ (List.length ((y7).1).1)))
                (
                some (((List.take (List.length ((y7).1).1) ((y7).1).1), (((y7).1).2).1), (y7).2))
                (
                none))
              (
              none))
            (
            Option.bind (
                cond (decide ((((((y6).2).2).2).2).1 = (16 : Int)))
                  (
                  cond (decide ((List.length (((((y6).2).2).2).1).1) = (List.length (((((y6).2).2).2).1).1)))
                    (
                    some ((y6).1, (((y6).2).1, ((((y6).2).2).1, (((((y6).2).2).2).1, ((((((y6).2).2).2).2).1, (true, ())))))))
                    (
                    none))
                  (
                  cond (decide ((((((y6).2).2).2).2).1 = (19 : Int)))
                    (
                    cond (decide ((List.length (((((y6).2).2).2).1).1) = (List.length (((((y6).2).2).2).1).1)))
                      (
                      some ((y6).1, (((y6).2).1, ((((y6).2).2).1, (((((y6).2).2).2).1, ((((((y6).2).2).2).2).1, (true, ())))))))
                      (
                      none))
                    (
                    cond (decide ((((((y6).2).2).2).2).1 = (20 : Int)))
                      (
                      cond (decide ((List.length (((((y6).2).2).2).1).1) = (List.length (((((y6).2).2).2).1).1)))
                        (
                        some ((y6).1, (((y6).2).1, ((((y6).2).2).1, (((((y6).2).2).2).1, ((((((y6).2).2).2).2).1, (true, ())))))))
                        (
                        none))
                      (
                      cond (decide ((List.length (((((y6).2).2).2).1).1) = (List.length (((((y6).2).2).2).1).1)))
                        (
                        some ((y6).1, (((y6).2).1, ((((y6).2).2).1, (((((y6).2).2).2).1, ((((((y6).2).2).2).2).1, ((decide ((((((y6).2).2).2).2).1 = (17 : Int))), ())))))))
                        (
                        none))))) fun y8 =>
            cond ((((((y8).2).2).2).2).2).1
              (
              Option.bind (F_soft_Result N (y8).1 (((y8).2).2).1) fun y9 =>
              some y9)
              (
              cond (decide ((((((y8).2).2).2).2).1 = (18 : Int)))
                (
                cond (decide (0 < (List.length (((y8).2).2).1)))
                  (
                  Option.bind (F_op_reshape N ((y8).2).1 (List.getD (((y8).2).2).1 0 (([] : List Int), false))) fun y10 =>
                  some y10)
                  (
                  none))
                (
                cond (decide ((((((y8).2).2).2).2).1 = (21 : Int)))
                  (
                  cond (decide (0 < (List.length (((y8).2).2).1)))
                    (
                    Option.bind (F_op_turn N (List.getD (((y8).2).2).1 0 (([] : List Int), false))) fun y11 =>
                    cond (decide (((0 : Nat) + (List.length ((y11).1).1)) ≤ (List.length ((y11).1).1)))
                      (
                      some (((List.take (List.length ((y11).1).1) ((y11).1).1), (((y11).1).2).1), (y11).2))
                      (
                      none))
                    (
                    none))
                  (
                  Option.bind (F_elem_Result N (y8).1 ((y8).2).1 (((y8).2).2).1) fun y12 =>
                  cond (decide (((0 : Nat) + (List.length ((y12).1).1)) ≤ (List.length ((y12).1).1)))
                    (
                    some (((List.take (List.length ((y12).1).1) ((y12).1).1), (((y12).1).2).1), (y12).2))
                    (
                    none)))))))))

abbrev c_op_Result (N : Nat) : CallSpec := ⟨11, ps_op_Result, rs_op_Result, fun x => F_op_Result N x.1 x.2.1 x.2.2.1⟩

theorem cs_op_Result_ok (S : Nat → Addr) (N : Nat) : CallsOK Go.Proofs.Tryd.prog E S (cs_op_Result N) :=
  .cons (F_op_Known_ok S N) (.cons (F_op_Ins_ok S N) (.cons (F_op_Args_ok S N) (.cons (F_mat_Result_ok S N) (.cons (F_conv_Result_ok S N) (.cons (F_pool_Result_ok S N) (.cons (F_soft_Result_ok S N) (.cons (F_op_reshape_ok S N) (.cons (F_op_turn_ok S N) (.cons (F_elem_Result_ok S N) (.nil))))))))))
theorem F_op_Result_ok (S : Nat → Addr) (N : Nat) : ∀ x y, (c_op_Result N).g x = some y → FCon Go.Proofs.Tryd.prog E S 11 ps_op_Result rs_op_Result x y := by
  intro x y h
  exact fun_specJ E_ok mixed (cs_op_Result_ok S N) (f := 11) (fi := ⟨b_op_Result, 104, Go.Proofs.Tryd.f11.results.toList⟩) (by kernel_rfl) (ls := []) (.nil) (js := j_op_Result) (by kernel_rfl) (ps := ps_op_Result) (rs := rs_op_Result) (Eq.trans (b := F_op_Result N x.1 x.2.1 x.2.2.1) (by kernel_rfl) h)

/-! lodge/op.Unit -/

abbrev ps_op_Unit : List Ty := [(.int .i64), (.sl (.int .i64)), (.sl (.st (.pair (.sl (.int .i64)) .bool)))]
abbrev rs_op_Unit : List Slot := [.data (.int .i64), .data .err]
abbrev cs_op_Unit (N : Nat) : List CallSpec := [c_op_Result N]
noncomputable abbrev b_op_Unit : Code := (Go.Proofs.Tryd.f13.body).getD .skip

def F_op_Unit (N : Nat) (op_0 : Int) (args_1 : List Int) (ins_2 : List ((List Int × Bool))) : Option (Int × (Er × Unit)) :=
  Option.bind (F_op_Result N op_0 args_1 ins_2) fun y0 =>
  cond (Bool.not (Go.Eng.Er.isNil ((y0).2).1))
    (
    some ((0 : Int), (y0).2))
    (
    cond (decide (0 < (List.length ins_2)))
      (
      cond (decide (op_0 = (10 : Int)))
        (
        some ((2 : Int), (Go.Eng.Er.nil, ())))
        (
        cond (decide (op_0 = (12 : Int)))
          (
          cond (decide (1 < (List.length ((List.getD ins_2 0 (([] : List Int), false))).1)))
            (
            some ((List.getD ((List.getD ins_2 0 (([] : List Int), false))).1 1 (0 : Int)), (Go.Eng.Er.nil, ())))
            (
            none))
          (
          cond (decide (op_0 = (13 : Int)))
            (
            cond (decide (1 < (List.length ins_2)))
              (
              cond (decide (0 < (List.length ((List.getD ins_2 1 (([] : List Int), false))).1)))
                (
                cond (decide (1 < (List.length ((List.getD ins_2 1 (([] : List Int), false))).1)))
                  (
                  cond (decide (2 < (List.length ((List.getD ins_2 1 (([] : List Int), false))).1)))
                    (
                    some ((wi64 ((wi64 ((List.getD ((List.getD ins_2 1 (([] : List Int), false))).1 0 (0 : Int)) * (List.getD ((List.getD ins_2 1 (([] : List Int), false))).1 1 (0 : Int)))) * (List.getD ((List.getD ins_2 1 (([] : List Int), false))).1 2 (0 : Int)))), (Go.Eng.Er.nil, ())))
                    (
                    none))
                  (
                  none))
                (
                none))
              (
              none))
            (
            cond (decide (op_0 = (14 : Int)))
              (
              cond (decide (0 < (List.length args_1)))
                (
                cond (decide (0 < (List.length args_1)))
                  (
                  some ((wi64 ((List.getD args_1 0 (0 : Int)) * (List.getD args_1 0 (0 : Int)))), (Go.Eng.Er.nil, ())))
                  (
                  none))
                (
                none))
              (
              cond (decide (op_0 = (15 : Int)))
                (
                cond (decide (0 < (List.length args_1)))
                  (
                  cond (decide (0 < (List.length args_1)))
                    (
                    some ((wi64 ((List.getD args_1 0 (0 : Int)) * (List.getD args_1 0 (0 : Int)))), (Go.Eng.Er.nil, ())))
                    (
                    none))
                  (
                  none))
                (
                cond (decide (op_0 = (16 : Int)))
                  (
                  cond (decide ((0 : Int) ≤ (wi64 ((Nat.cast (List.length ((List.getD ins_2 0 (([] : List Int), false))).1) : Int) - (1 : Int)))))
                    (
                    cond (decide ((Int.toNat (wi64 ((Nat.cast (List.length ((List.getD ins_2 0 (([] : List Int), false))).1) : Int) - (1 : Int)))) < (List.length ((List.getD ins_2 0 (([] : List Int), false))).1)))
                      (
                      some ((List.getD ((List.getD ins_2 0 (([] : List Int), false))).1 (Int.toNat (wi64 ((Nat.cast (List.length ((List.getD ins_2 0 (([] : List Int), false))).1) : Int) - (1 : Int)))) (0 : Int)), (Go.Eng.Er.nil, ())))
                      (
                      none))
                    (
                    none))
                  (
                  cond (decide (op_0 = (19 : Int)))
                    (
                    cond (decide ((0 : Int) ≤ (wi64 ((Nat.cast (List.length ((List.getD ins_2 0 (([] : List Int), false))).1) : Int) - (1 : Int)))))
                      (
                      cond (decide ((Int.toNat (wi64 ((Nat.cast (List.length ((List.getD ins_2 0 (([] : List Int), false))).1) : Int) - (1 : Int)))) < (List.length ((List.getD ins_2 0 (([] : List Int), false))).1)))
                        (
                        some ((List.getD ((List.getD ins_2 0 (([] : List Int), false))).1 (Int.toNat (wi64 ((Nat.cast (List.length ((List.getD ins_2 0 (([] : List Int), false))).1) : Int) - (1 : Int)))) (0 : Int)), (Go.Eng.Er.nil, ())))
                        (
                        none))
                      (
                      none))
                    (
                    cond (decide (op_0 = (20 : Int)))
                      (
                      cond (decide ((0 : Int) ≤ (wi64 ((Nat.cast (List.length ((List.getD ins_2 0 (([] : List Int), false))).1) : Int) - (1 : Int)))))
                        (
                        cond (decide ((Int.toNat (wi64 ((Nat.cast (List.length ((List.getD ins_2 0 (([] : List Int), false))).1) : Int) - (1 : Int)))) < (List.length ((List.getD ins_2 0 (([] : List Int), false))).1)))
                          (
                          some ((List.getD ((List.getD ins_2 0 (([] : List Int), false))).1 (Int.toNat (wi64 ((Nat.cast (List.length ((List.getD ins_2 0 (([] : List Int), false))).1) : Int) - (1 : Int)))) (0 : Int)), (Go.Eng.Er.nil, ())))
                          (
                          none))
                        (
                        none))
                      (
                      some ((1 : Int), (Go.Eng.Er.nil, ())))))))))))
      (
      none))

abbrev c_op_Unit (N : Nat) : CallSpec := ⟨13, ps_op_Unit, rs_op_Unit, fun x => F_op_Unit N x.1 x.2.1 x.2.2.1⟩

theorem cs_op_Unit_ok (S : Nat → Addr) (N : Nat) : CallsOK Go.Proofs.Tryd.prog E S (cs_op_Unit N) :=
  .cons (F_op_Result_ok S N) (.nil)
theorem F_op_Unit_ok (S : Nat → Addr) (N : Nat) : ∀ x y, (c_op_Unit N).g x = some y → FCon Go.Proofs.Tryd.prog E S 13 ps_op_Unit rs_op_Unit x y := by
  intro x y h
  exact fun_spec E_ok mixed (cs_op_Unit_ok S N) (f := 13) (fi := ⟨b_op_Unit, 71, Go.Proofs.Tryd.f13.results.toList⟩) (by kernel_rfl) (ls := []) (.nil) (by kernel_rfl) (ps := ps_op_Unit) (rs := rs_op_Unit) (Eq.trans (b := F_op_Unit N x.1 x.2.1 x.2.2.1) (by kernel_rfl) h)

/-! lodge/lodgelaw12.first -/

abbrev ps_lodgelaw12_first : List Ty := []
abbrev rs_lodgelaw12_first : List Slot := [.data .bool]
abbrev cs_lodgelaw12_first (N : Nat) : List CallSpec := [c_op_Unit N]
noncomputable abbrev b_lodgelaw12_first : Code := (Go.Proofs.Tryd.f9.body).getD .skip

def F_lodgelaw12_first (N : Nat)  : Option (Bool × Unit) :=
  Option.bind (F_op_Unit N (12 : Int) ((0 : Int) :: ((0 : Int) :: ([] : List Int))) ((((2 : Int) :: ((3 : Int) :: ([] : List Int))), false) :: ((((3 : Int) :: ((4 : Int) :: ([] : List Int))), false) :: ([] : List ((List Int) × Bool))))) fun y0 =>
  cond (Go.Eng.Er.isNil ((y0).2).1)
    (
    some ((decide ((y0).1 = (3 : Int))), ()))
    (
    some (false, ()))

abbrev c_lodgelaw12_first (N : Nat) : CallSpec := ⟨9, ps_lodgelaw12_first, rs_lodgelaw12_first, fun x => F_lodgelaw12_first N ⟩

theorem cs_lodgelaw12_first_ok (S : Nat → Addr) (N : Nat) : CallsOK Go.Proofs.Tryd.prog E S (cs_lodgelaw12_first N) :=
  .cons (F_op_Unit_ok S N) (.nil)
theorem F_lodgelaw12_first_ok (S : Nat → Addr) (N : Nat) : ∀ x y, (c_lodgelaw12_first N).g x = some y → FCon Go.Proofs.Tryd.prog E S 9 ps_lodgelaw12_first rs_lodgelaw12_first x y := by
  intro x y h
  exact fun_spec E_ok mixed (cs_lodgelaw12_first_ok S N) (f := 9) (fi := ⟨b_lodgelaw12_first, 19, Go.Proofs.Tryd.f9.results.toList⟩) (by kernel_rfl) (ls := []) (.nil) (by kernel_rfl) (ps := ps_lodgelaw12_first) (rs := rs_lodgelaw12_first) (Eq.trans (b := F_lodgelaw12_first N ) (by kernel_rfl) h)

/-! lodge/lodgeworld.Number -/

abbrev ps_lodgeworld_Number : List Ty := [(.int .i64), (.int .i64)]
abbrev rs_lodgeworld_Number : List Slot := [.data (.int .i64)]
abbrev cs_lodgeworld_Number (N : Nat) : List CallSpec := []
noncomputable abbrev b_lodgeworld_Number : Code := (Go.Proofs.Tryd.f17.body).getD .skip

def F_lodgeworld_Number (N : Nat) (n_0 : Int) (below_1 : Int) : Option (Int × Unit) :=
  cond (decide (@Ne Int below_1 (0 : Int)))
    (
    cond (decide (@Ne Int below_1 (0 : Int)))
      (
      some ((Int.tmod (wi64 ((Int.tmod n_0 below_1) + below_1)) below_1), ()))
      (
      none))
    (
    none)

abbrev c_lodgeworld_Number (N : Nat) : CallSpec := ⟨17, ps_lodgeworld_Number, rs_lodgeworld_Number, fun x => F_lodgeworld_Number N x.1 x.2.1⟩

theorem cs_lodgeworld_Number_ok (S : Nat → Addr) (N : Nat) : CallsOK Go.Proofs.Tryd.prog E S (cs_lodgeworld_Number N) :=
  .nil
theorem F_lodgeworld_Number_ok (S : Nat → Addr) (N : Nat) : ∀ x y, (c_lodgeworld_Number N).g x = some y → FCon Go.Proofs.Tryd.prog E S 17 ps_lodgeworld_Number rs_lodgeworld_Number x y := by
  intro x y h
  exact fun_spec E_ok mixed (cs_lodgeworld_Number_ok S N) (f := 17) (fi := ⟨b_lodgeworld_Number, 12, Go.Proofs.Tryd.f17.results.toList⟩) (by kernel_rfl) (ls := []) (.nil) (by kernel_rfl) (ps := ps_lodgeworld_Number) (rs := rs_lodgeworld_Number) (Eq.trans (b := F_lodgeworld_Number N x.1 x.2.1) (by kernel_rfl) h)

/-! lodge/lodgelaw12.OpUnits -/

abbrev ps_lodgelaw12_OpUnits : List Ty := [(.int .i64), (.int .i64), (.int .i64)]
abbrev rs_lodgelaw12_OpUnits : List Slot := [.data .bool]
abbrev cs_lodgelaw12_OpUnits (N : Nat) : List CallSpec := [c_op_Unit N, c_lodgelaw12_first N, c_lodgeworld_Number N]
noncomputable abbrev b_lodgelaw12_OpUnits : Code := (Go.Proofs.Tryd.f4.body).getD .skip

def F_lodgelaw12_OpUnits (N : Nat) (m_0 : Int) (k_1 : Int) (n_2 : Int) : Option (Bool × Unit) :=
  Option.bind (F_lodgelaw12_first N) fun y0 =>
  cond (Bool.not (y0).1)
    (
    some (false, ()))
    (
    Option.bind (F_lodgeworld_Number N m_0 (20 : Int)) fun y1 =>
    Option.bind (F_lodgeworld_Number N k_1 (20 : Int)) fun y2 =>
    Option.bind (F_lodgeworld_Number N n_2 (20 : Int)) fun y3 =>
    Option.bind (F_op_Unit N (12 : Int) ((0 : Int) :: ((0 : Int) :: ([] : List Int))) ((((wi64 ((y1).1 + (1 : Int))) :: ((wi64 ((y2).1 + (1 : Int))) :: ([] : List Int))), false) :: ((((wi64 ((y2).1 + (1 : Int))) :: ((wi64 ((y3).1 + (1 : Int))) :: ([] : List Int))), false) :: ([] : List ((List Int) × Bool))))) fun y4 =>
    Option.bind (F_op_Unit N (13 : Int) ((1 : Int) :: ((0 : Int) :: ((0 : Int) :: ([] : List Int)))) ((((20 : Int) :: ((20 : Int) :: ((wi64 ((y3).1 + (1 : Int))) :: ([] : List Int)))), false) :: ((((Go.Eng.imin (wi64 ((y1).1 + (1 : Int))) (9 : Int)) :: ((Go.Eng.imin (wi64 ((y2).1 + (1 : Int))) (9 : Int)) :: ((wi64 ((y3).1 + (1 : Int))) :: ((1 : Int) :: ([] : List Int))))), false) :: ([] : List ((List Int) × Bool))))) fun y5 =>
    Option.bind (F_op_Unit N (14 : Int) ((Go.Eng.imin (wi64 ((y1).1 + (1 : Int))) (16 : Int)) :: ((1 : Int) :: ([] : List Int))) ((((20 : Int) :: ((20 : Int) :: ((wi64 ((y3).1 + (1 : Int))) :: ([] : List Int)))), false) :: ([] : List ((List Int) × Bool)))) fun y6 =>
    Option.bind (F_op_Unit N (20 : Int) ([] : List Int) ((((wi64 ((y1).1 + (1 : Int))) :: ((wi64 ((y2).1 + (1 : Int))) :: ([] : List Int))), false) :: ([] : List ((List Int) × Bool)))) fun y7 =>
    Option.bind (F_op_Unit N (4 : Int) ([] : List Int) ((((wi64 ((y1).1 + (1 : Int))) :: ((wi64 ((y2).1 + (1 : Int))) :: ([] : List Int))), false) :: ((((wi64 ((y1).1 + (1 : Int))) :: ((wi64 ((y2).1 + (1 : Int))) :: ([] : List Int))), false) :: ([] : List ((List Int) × Bool))))) fun y8 =>
    Option.bind (F_op_Unit N (10 : Int) ((1 : Int) :: ((1 : Int) :: ((1 : Int) :: ([] : List Int)))) ((((wi64 ((y1).1 + (1 : Int))) :: ([] : List Int)), true) :: ([] : List ((List Int) × Bool)))) fun y9 =>
    cond (y0).1
      (
      cond (Go.Eng.Er.isNil ((y4).2).1)
        (
        cond (Go.Eng.Er.isNil ((y5).2).1)
          (
          cond (Go.Eng.Er.isNil ((y6).2).1)
            (
            cond (Go.Eng.Er.isNil ((y7).2).1)
              (
              cond (Go.Eng.Er.isNil ((y8).2).1)
                (
                cond (Go.Eng.Er.isNil ((y9).2).1)
                  (
                  cond (decide ((y4).1 = (wi64 ((y2).1 + (1 : Int)))))
                    (
                    cond (decide ((y5).1 = (wi64 ((wi64 ((Go.Eng.imin (wi64 ((y1).1 + (1 : Int))) (9 : Int)) * (Go.Eng.imin (wi64 ((y2).1 + (1 : Int))) (9 : Int)))) * (wi64 ((y3).1 + (1 : Int)))))))
                      (
                      cond (decide ((y6).1 = (wi64 ((Go.Eng.imin (wi64 ((y1).1 + (1 : Int))) (16 : Int)) * (Go.Eng.imin (wi64 ((y1).1 + (1 : Int))) (16 : Int))))))
                        (
                        cond (decide ((y7).1 = (wi64 ((y2).1 + (1 : Int)))))
                          (
                          cond (decide ((y8).1 = (1 : Int)))
                            (
                            some ((decide ((y9).1 = (2 : Int))), ()))
                            (
                            some (false, ())))
                          (
                          some (false, ())))
                        (
                        some (false, ())))
                      (
                      some (false, ())))
                    (
                    some (false, ())))
                  (
                  some (false, ())))
                (
                some (false, ())))
              (
              some (false, ())))
            (
            some (false, ())))
          (
          some (false, ())))
        (
        some (false, ())))
      (
      some (false, ())))

abbrev c_lodgelaw12_OpUnits (N : Nat) : CallSpec := ⟨4, ps_lodgelaw12_OpUnits, rs_lodgelaw12_OpUnits, fun x => F_lodgelaw12_OpUnits N x.1 x.2.1 x.2.2.1⟩

theorem cs_lodgelaw12_OpUnits_ok (S : Nat → Addr) (N : Nat) : CallsOK Go.Proofs.Tryd.prog E S (cs_lodgelaw12_OpUnits N) :=
  .cons (F_op_Unit_ok S N) (.cons (F_lodgelaw12_first_ok S N) (.cons (F_lodgeworld_Number_ok S N) (.nil)))
theorem F_lodgelaw12_OpUnits_ok (S : Nat → Addr) (N : Nat) : ∀ x y, (c_lodgelaw12_OpUnits N).g x = some y → FCon Go.Proofs.Tryd.prog E S 4 ps_lodgelaw12_OpUnits rs_lodgelaw12_OpUnits x y := by
  intro x y h
  exact fun_spec E_ok mixed (cs_lodgelaw12_OpUnits_ok S N) (f := 4) (fi := ⟨b_lodgelaw12_OpUnits, 164, Go.Proofs.Tryd.f4.results.toList⟩) (by kernel_rfl) (ls := []) (.nil) (by kernel_rfl) (ps := ps_lodgelaw12_OpUnits) (rs := rs_lodgelaw12_OpUnits) (Eq.trans (b := F_lodgelaw12_OpUnits N x.1 x.2.1 x.2.2.1) (by kernel_rfl) h)

/-! lodge/op.names -/

abbrev ps_op_names : List Ty := []
abbrev rs_op_names : List Slot := [.sl .str]
abbrev cs_op_names (N : Nat) : List CallSpec := []
noncomputable abbrev b_op_names : Code := (Go.Proofs.Tryd.f53.body).getD .skip

def F_op_names (N : Nat)  : Option (List ByteArray × Unit) :=
  some (((ByteArray.mk (@List.toArray UInt8 ((97 : UInt8) :: ((100 : UInt8) :: ((100 : UInt8) :: ([] : List UInt8)))))) :: ((ByteArray.mk (@List.toArray UInt8 ((115 : UInt8) :: ((117 : UInt8) :: ((98 : UInt8) :: ([] : List UInt8)))))) :: ((ByteArray.mk (@List.toArray UInt8 ((109 : UInt8) :: ((117 : UInt8) :: ((108 : UInt8) :: ([] : List UInt8)))))) :: ((ByteArray.mk (@List.toArray UInt8 ((109 : UInt8) :: ((97 : UInt8) :: ((120 : UInt8) :: ([] : List UInt8)))))) :: ((ByteArray.mk (@List.toArray UInt8 ((114 : UInt8) :: ((101 : UInt8) :: ((108 : UInt8) :: ((117 : UInt8) :: ([] : List UInt8))))))) :: ((ByteArray.mk (@List.toArray UInt8 ((99 : UInt8) :: ((108 : UInt8) :: ((97 : UInt8) :: ((109 : UInt8) :: ((112 : UInt8) :: ([] : List UInt8)))))))) :: ((ByteArray.mk (@List.toArray UInt8 ((114 : UInt8) :: ((101 : UInt8) :: ((113 : UInt8) :: ((117 : UInt8) :: ((97 : UInt8) :: ((110 : UInt8) :: ((116 : UInt8) :: ([] : List UInt8)))))))))) :: ((ByteArray.mk (@List.toArray UInt8 ((119 : UInt8) :: ((105 : UInt8) :: ((100 : UInt8) :: ((101 : UInt8) :: ((110 : UInt8) :: ([] : List UInt8)))))))) :: ((ByteArray.mk (@List.toArray UInt8 ((109 : UInt8) :: ((97 : UInt8) :: ((116 : UInt8) :: ((109 : UInt8) :: ((117 : UInt8) :: ((108 : UInt8) :: ([] : List UInt8))))))))) :: ((ByteArray.mk (@List.toArray UInt8 ((99 : UInt8) :: ((111 : UInt8) :: ((110 : UInt8) :: ((118 : UInt8) :: ([] : List UInt8))))))) :: ((ByteArray.mk (@List.toArray UInt8 ((109 : UInt8) :: ((97 : UInt8) :: ((120 : UInt8) :: ((112 : UInt8) :: ((111 : UInt8) :: ((111 : UInt8) :: ((108 : UInt8) :: ([] : List UInt8)))))))))) :: ((ByteArray.mk (@List.toArray UInt8 ((97 : UInt8) :: ((118 : UInt8) :: ((103 : UInt8) :: ((112 : UInt8) :: ((111 : UInt8) :: ((111 : UInt8) :: ((108 : UInt8) :: ([] : List UInt8)))))))))) :: ((ByteArray.mk (@List.toArray UInt8 ((115 : UInt8) :: ((111 : UInt8) :: ((102 : UInt8) :: ((116 : UInt8) :: ((109 : UInt8) :: ((97 : UInt8) :: ((120 : UInt8) :: ([] : List UInt8)))))))))) :: ((ByteArray.mk (@List.toArray UInt8 ((103 : UInt8) :: ((97 : UInt8) :: ((116 : UInt8) :: ((104 : UInt8) :: ((101 : UInt8) :: ((114 : UInt8) :: ([] : List UInt8))))))))) :: ((ByteArray.mk (@List.toArray UInt8 ((114 : UInt8) :: ((101 : UInt8) :: ((115 : UInt8) :: ((104 : UInt8) :: ((97 : UInt8) :: ((112 : UInt8) :: ((101 : UInt8) :: ([] : List UInt8)))))))))) :: ((ByteArray.mk (@List.toArray UInt8 ((97 : UInt8) :: ((114 : UInt8) :: ((103 : UInt8) :: ((109 : UInt8) :: ((97 : UInt8) :: ((120 : UInt8) :: ([] : List UInt8))))))))) :: ((ByteArray.mk (@List.toArray UInt8 ((115 : UInt8) :: ((117 : UInt8) :: ((109 : UInt8) :: ([] : List UInt8)))))) :: ((ByteArray.mk (@List.toArray UInt8 ((116 : UInt8) :: ((117 : UInt8) :: ((114 : UInt8) :: ((110 : UInt8) :: ([] : List UInt8))))))) :: ([] : List ByteArray))))))))))))))))))), ())

abbrev c_op_names (N : Nat) : CallSpec := ⟨53, ps_op_names, rs_op_names, fun x => F_op_names N ⟩

theorem cs_op_names_ok (S : Nat → Addr) (N : Nat) : CallsOK Go.Proofs.Tryd.prog E S (cs_op_names N) :=
  .nil
theorem F_op_names_ok (S : Nat → Addr) (N : Nat) : ∀ x y, (c_op_names N).g x = some y → FCon Go.Proofs.Tryd.prog E S 53 ps_op_names rs_op_names x y := by
  intro x y h
  exact fun_spec E_ok mixed (cs_op_names_ok S N) (f := 53) (fi := ⟨b_op_names, 2, Go.Proofs.Tryd.f53.results.toList⟩) (by kernel_rfl) (ls := []) (.nil) (by kernel_rfl) (ps := ps_op_names) (rs := rs_op_names) (Eq.trans (b := F_op_names N ) (by kernel_rfl) h)

/-! lodge/op.Name -/

abbrev ps_op_Name : List Ty := [(.int .i64)]
abbrev rs_op_Name : List Slot := [.data .str]
abbrev cs_op_Name (N : Nat) : List CallSpec := [c_op_Known N, c_op_names N]
noncomputable abbrev b_op_Name : Code := (Go.Proofs.Tryd.f19.body).getD .skip

def F_op_Name (N : Nat) (op_0 : Int) : Option (ByteArray × Unit) :=
  Option.bind (F_op_Known N op_0) fun y0 =>
  cond (Bool.not (y0).1)
    (
    some ((ByteArray.mk (@List.toArray UInt8 ([] : List UInt8))), ()))
    (
    Option.bind (F_op_names N) fun y1 =>
    cond (decide ((0 : Int) ≤ (wi64 (op_0 - (4 : Int)))))
      (
      cond (decide ((Int.toNat (wi64 (op_0 - (4 : Int)))) < (List.length (y1).1)))
        (
        cond (decide (((0 : Nat) + (Int.toNat (wi64 (op_0 - (4 : Int))))) < (List.length (y1).1)))
          (
          some ((List.getD (y1).1 ((0 : Nat) + (Int.toNat (wi64 (op_0 - (4 : Int))))) (dfl Go.Eng.Ty.str)), ()))
          (
          none))
        (
        none))
      (
      none))

abbrev c_op_Name (N : Nat) : CallSpec := ⟨19, ps_op_Name, rs_op_Name, fun x => F_op_Name N x.1⟩

theorem cs_op_Name_ok (S : Nat → Addr) (N : Nat) : CallsOK Go.Proofs.Tryd.prog E S (cs_op_Name N) :=
  .cons (F_op_Known_ok S N) (.cons (F_op_names_ok S N) (.nil))
theorem F_op_Name_ok (S : Nat → Addr) (N : Nat) : ∀ x y, (c_op_Name N).g x = some y → FCon Go.Proofs.Tryd.prog E S 19 ps_op_Name rs_op_Name x y := by
  intro x y h
  exact fun_spec E_ok mixed (cs_op_Name_ok S N) (f := 19) (fi := ⟨b_op_Name, 11, Go.Proofs.Tryd.f19.results.toList⟩) (by kernel_rfl) (ls := []) (.nil) (by kernel_rfl) (ps := ps_op_Name) (rs := rs_op_Name) (Eq.trans (b := F_op_Name N x.1) (by kernel_rfl) h)

/-! slices.Index[[]string,string] -/

abbrev ps_slices_Index_string_string : List Ty := [(.sl .str), .str]
abbrev rs_slices_Index_string_string : List Slot := [.data (.int .i64)]
abbrev cs_slices_Index_string_string (N : Nat) : List CallSpec := []
noncomputable abbrev b_slices_Index_string_string : Code := (Go.Proofs.Tryd.f52.body).getD .skip

abbrev h_slices_Index_string_string_0 : List Slot := [.data (.sl .str), .data .str, .dead, .dead, .dead, .dead, .dead, .data (.int .i64), .data (.int .i64), .dead, .dead, .dead, .dead, .dead, .dead, .dead, .dead, .dead, .dead]
abbrev e_slices_Index_string_string_0 : List (AX × List Slot) := [(AX.exit 0, [.dead, .dead, .dead, .dead, .dead, .dead, .dead, .dead, .dead, .dead, .dead, .dead, .dead, .dead, .dead, .dead, .dead, .dead, .dead]), (AX.ret, [.dead, .dead, .dead, .dead, .data (.int .i64), .dead, .dead, .dead, .dead, .dead, .dead, .dead, .dead, .dead, .dead, .dead, .dead, .dead, .dead])]
def g_slices_Index_string_string_0 (N : Nat) : Nat → List ByteArray → ByteArray → Int → Int → Option (Sum Unit (Int × Unit))
  | 0, _, _, _, _ => none
  | n + 1, s_0, v_1, t_7, t_8 =>
    cond (decide (t_8 < t_7))
      (
      cond (decide ((0 : Int) ≤ t_8))
        (
        cond (decide ((Int.toNat t_8) < (List.length s_0)))
          (
          cond ((ByteArray.toList v_1) == (ByteArray.toList (List.getD s_0 (Int.toNat t_8) (dfl Go.Eng.Ty.str))))
            (
            some (Sum.inr (t_8, ())))
            (
            (g_slices_Index_string_string_0 N n s_0 v_1 t_7 (wi64 (t_8 + (1 : Int))))))
          (
          none))
        (
        none))
      (
      some (Sum.inl ()))

def F_slices_Index_string_string (N : Nat) (s_0 : List ByteArray) (v_1 : ByteArray) : Option (Int × Unit) :=
  Option.bind (g_slices_Index_string_string_0 N N s_0 v_1 (Nat.cast (List.length s_0) : Int) (0 : Int)) fun y0 =>
  Sum.elim (fun y1 =>
    some ((-(1 : Int)), ()))
    (fun y2 =>
    some y2) y0

abbrev c_slices_Index_string_string (N : Nat) : CallSpec := ⟨52, ps_slices_Index_string_string, rs_slices_Index_string_string, fun x => F_slices_Index_string_string N x.1 x.2.1⟩
abbrev l_slices_Index_string_string_0 (N : Nat) : LoopSpec := ⟨0, h_slices_Index_string_string_0, e_slices_Index_string_string_0, fun x => g_slices_Index_string_string_0 N N x.1 x.2.1 x.2.2.1 x.2.2.2.1⟩

theorem cs_slices_Index_string_string_ok (S : Nat → Addr) (N : Nat) : CallsOK Go.Proofs.Tryd.prog E S (cs_slices_Index_string_string N) :=
  .nil
noncomputable abbrev b_slices_Index_string_string_0 : Code := (loopsOf b_slices_Index_string_string).getD 0 .skip
theorem g_slices_Index_string_string_0_ok (S : Nat → Addr) (N : Nat) : ∀ n x y, (fun (x : Val (slotsTy h_slices_Index_string_string_0)) => g_slices_Index_string_string_0 N n x.1 x.2.1 x.2.2.1 x.2.2.2.1) x = some y → LoopCon Go.Proofs.Tryd.prog E S b_slices_Index_string_string_0 (encSlots h_slices_Index_string_string_0 x) (encEx e_slices_Index_string_string_0 y).1 (encEx e_slices_Index_string_string_0 y).2 :=
  loop_spec E_ok mixed (cs_slices_Index_string_string_ok S N) (all := loopsOf b_slices_Index_string_string) (ls := []) (.nil) (i := 0) (by kernel_rfl) (inner_of (by kernel_rfl)) (head := h_slices_Index_string_string_0) (ex := e_slices_Index_string_string_0) (fun n (x : Val (slotsTy h_slices_Index_string_string_0)) => g_slices_Index_string_string_0 N n x.1 x.2.1 x.2.2.1 x.2.2.2.1) (fun _ => rfl) (fun n x => by kernel_rfl)
theorem F_slices_Index_string_string_ok (S : Nat → Addr) (N : Nat) : ∀ x y, (c_slices_Index_string_string N).g x = some y → FCon Go.Proofs.Tryd.prog E S 52 ps_slices_Index_string_string rs_slices_Index_string_string x y := by
  intro x y h
  exact fun_spec E_ok mixed (cs_slices_Index_string_string_ok S N) (f := 52) (fi := ⟨b_slices_Index_string_string, 19, Go.Proofs.Tryd.f52.results.toList⟩) (by kernel_rfl) (ls := [l_slices_Index_string_string_0 N]) (.cons (by kernel_rfl) (g_slices_Index_string_string_0_ok S N N) (.nil)) (by kernel_rfl) (ps := ps_slices_Index_string_string) (rs := rs_slices_Index_string_string) (Eq.trans (b := F_slices_Index_string_string N x.1 x.2.1) (by kernel_rfl) h)

/-! lodge/op.Named -/

abbrev ps_op_Named : List Ty := [.str]
abbrev rs_op_Named : List Slot := [.data (.int .i64), .data .bool]
abbrev cs_op_Named (N : Nat) : List CallSpec := [c_op_names N, c_slices_Index_string_string N]
noncomputable abbrev b_op_Named : Code := (Go.Proofs.Tryd.f18.body).getD .skip

def F_op_Named (N : Nat) (s_0 : ByteArray) : Option (Int × (Bool × Unit)) :=
  Option.bind (F_op_names N) fun y0 =>
  cond (decide (((0 : Nat) + (List.length (y0).1)) ≤ (List.length (y0).1)))
    (
    Option.bind (F_slices_Index_string_string N (List.take (List.length (y0).1) (y0).1) s_0) fun y1 =>
    cond (decide ((y1).1 < (0 : Int)))
      (
      some ((0 : Int), (false, ())))
      (
      some ((wi64 ((y1).1 + (4 : Int))), (true, ()))))
    (
    none)

abbrev c_op_Named (N : Nat) : CallSpec := ⟨18, ps_op_Named, rs_op_Named, fun x => F_op_Named N x.1⟩

theorem cs_op_Named_ok (S : Nat → Addr) (N : Nat) : CallsOK Go.Proofs.Tryd.prog E S (cs_op_Named N) :=
  .cons (F_op_names_ok S N) (.cons (F_slices_Index_string_string_ok S N) (.nil))
theorem F_op_Named_ok (S : Nat → Addr) (N : Nat) : ∀ x y, (c_op_Named N).g x = some y → FCon Go.Proofs.Tryd.prog E S 18 ps_op_Named rs_op_Named x y := by
  intro x y h
  exact fun_spec E_ok mixed (cs_op_Named_ok S N) (f := 18) (fi := ⟨b_op_Named, 12, Go.Proofs.Tryd.f18.results.toList⟩) (by kernel_rfl) (ls := []) (.nil) (by kernel_rfl) (ps := ps_op_Named) (rs := rs_op_Named) (Eq.trans (b := F_op_Named N x.1) (by kernel_rfl) h)

/-! lodge/lodgelaw12.OpNames -/

abbrev ps_lodgelaw12_OpNames : List Ty := [.str]
abbrev rs_lodgelaw12_OpNames : List Slot := [.data .bool]
abbrev cs_lodgelaw12_OpNames (N : Nat) : List CallSpec := [c_op_Known N, c_op_Ins N, c_lodgelaw12_first N, c_op_Name N, c_op_Named N]
noncomputable abbrev b_lodgelaw12_OpNames : Code := (Go.Proofs.Tryd.f5.body).getD .skip

abbrev h_lodgelaw12_OpNames_0 : List Slot := [.data .str, .dead, .dead, .data .bool, .data (.int .i64), .data (.int .i64), .dead, .dead, .dead, .dead, .dead, .dead, .dead, .dead, .dead, .dead, .dead, .dead, .dead, .dead, .dead, .dead, .dead, .dead, .dead, .dead, .dead, .dead, .dead, .dead, .dead, .dead, .dead, .dead, .dead, .dead, .dead, .dead, .dead, .dead, .dead, .dead, .dead, .dead, .dead, .dead, .dead, .dead, .dead, .dead, .dead, .dead, .dead, .dead, .dead, .dead, .dead, .dead, .dead, .dead, .dead, .dead, .dead, .dead, .dead, .dead, .dead, .dead, .dead, .dead, .dead, .dead, .dead, .dead, .dead, .dead, .dead]
abbrev e_lodgelaw12_OpNames_0 : List (AX × List Slot) := [(AX.exit 0, [.data .str, .dead, .dead, .data .bool, .data (.int .i64), .dead, .dead, .dead, .dead, .dead, .dead, .dead, .dead, .dead, .dead, .dead, .dead, .dead, .dead, .dead, .dead, .dead, .dead, .dead, .dead, .dead, .dead, .dead, .dead, .dead, .dead, .dead, .dead, .dead, .dead, .dead, .dead, .dead, .dead, .dead, .dead, .dead, .dead, .dead, .dead, .dead, .dead, .dead, .dead, .dead, .dead, .dead, .dead, .dead, .dead, .dead, .dead, .dead, .dead, .dead, .dead, .dead, .dead, .dead, .dead, .dead, .dead, .dead, .dead, .dead, .dead, .dead, .dead, .dead, .dead, .dead, .dead]), (AX.ret, [.dead, .dead, .data .bool, .dead, .dead, .dead, .dead, .dead, .dead, .dead, .dead, .dead, .dead, .dead, .dead, .dead, .dead, .dead, .dead, .dead, .dead, .dead, .dead, .dead, .dead, .dead, .dead, .dead, .dead, .dead, .dead, .dead, .dead, .dead, .dead, .dead, .dead, .dead, .dead, .dead, .dead, .dead, .dead, .dead, .dead, .dead, .dead, .dead, .dead, .dead, .dead, .dead, .dead, .dead, .dead, .dead, .dead, .dead, .dead, .dead, .dead, .dead, .dead, .dead, .dead, .dead, .dead, .dead, .dead, .dead, .dead, .dead, .dead, .dead, .dead, .dead, .dead])]
def g_lodgelaw12_OpNames_0 (N : Nat) : Nat → ByteArray → Bool → Int → Int → Option (Sum (ByteArray × (Bool × (Int × Unit))) (Bool × Unit))
  | 0, _, _, _, _ => none
  | n + 1, s_0, ok_3, seen_4, o_5 =>
    cond (decide (o_5 ≤ (21 : Int)))
      (
      Option.bind (F_op_Name N o_5) fun y6 =>
      Option.bind (F_op_Named N (y6).1) fun y7 =>
      cond (Bool.not ((y7).2).1)
        (
        some (Sum.inr (false, ())))
        (
        cond (decide (@Ne Int (y7).1 o_5))
          (
          some (Sum.inr (false, ())))
          (
          Option.bind (F_op_Known N o_5) fun y8 =>
          cond (Bool.not (y8).1)
            (
            some (Sum.inr (false, ())))
            (
            Option.bind (F_op_Ins N o_5) fun y9 =>
            cond (decide ((y9).1 < (1 : Int)))
              (
              some (Sum.inr (false, ())))
              (
              Option.bind (F_op_Name N o_5) fun y10 =>
              cond ((ByteArray.toList (y10).1) == (ByteArray.toList s_0))
                (
                (g_lodgelaw12_OpNames_0 N n s_0 ok_3 (wi64 (seen_4 + (1 : Int))) (wi64 (o_5 + (1 : Int)))))
                (
                (g_lodgelaw12_OpNames_0 N n s_0 ok_3 seen_4 (wi64 (o_5 + (1 : Int))))))))))
      (
      some (Sum.inl (s_0, (ok_3, (seen_4, ())))))

def F_lodgelaw12_OpNames (N : Nat) (s_0 : ByteArray) : Option (Bool × Unit) :=
  Option.bind (F_lodgelaw12_first N) fun y0 =>
  cond (Bool.not (y0).1)
    (
    some (false, ()))
    (
    Option.bind (g_lodgelaw12_OpNames_0 N N s_0 (y0).1 (0 : Int) (4 : Int)) fun y1 =>
    Sum.elim (fun y2 =>
      Option.bind (F_op_Named N (y2).1) fun y3 =>
      cond ((y2).2).1
        (
        cond (((y3).2).1 == (decide ((((y2).2).2).1 = (1 : Int))))
          (
          cond ((y3).2).1
            (
            Option.bind (F_op_Known N (3 : Int)) fun y4 =>
            cond (Bool.not (y4).1)
              (
              Option.bind (F_op_Known N (22 : Int)) fun y5 =>
              cond (Bool.not (y5).1)
                (
                Option.bind (F_op_Name N (0 : Int)) fun y6 =>
                some (((ByteArray.toList (y6).1) == (ByteArray.toList (ByteArray.mk (@List.toArray UInt8 ([] : List UInt8))))), ()))
                (
                some (false, ())))
              (
              some (false, ())))
            (
            cond (decide ((y3).1 = (0 : Int)))
              (
              Option.bind (F_op_Known N (3 : Int)) fun y7 =>
              cond (Bool.not (y7).1)
                (
                Option.bind (F_op_Known N (22 : Int)) fun y8 =>
                cond (Bool.not (y8).1)
                  (
                  Option.bind (F_op_Name N (0 : Int)) fun y9 =>
                  some (((ByteArray.toList (y9).1) == (ByteArray.toList (ByteArray.mk (@List.toArray UInt8 ([] : List UInt8))))), ()))
                  (
                  some (false, ())))
                (
                some (false, ())))
              (
              some (false, ()))))
          (
          some (false, ())))
        (
        some (false, ())))
      (fun y10 =>
      some y10) y1)

abbrev c_lodgelaw12_OpNames (N : Nat) : CallSpec := ⟨5, ps_lodgelaw12_OpNames, rs_lodgelaw12_OpNames, fun x => F_lodgelaw12_OpNames N x.1⟩
abbrev l_lodgelaw12_OpNames_0 (N : Nat) : LoopSpec := ⟨0, h_lodgelaw12_OpNames_0, e_lodgelaw12_OpNames_0, fun x => g_lodgelaw12_OpNames_0 N N x.1 x.2.1 x.2.2.1 x.2.2.2.1⟩

theorem cs_lodgelaw12_OpNames_ok (S : Nat → Addr) (N : Nat) : CallsOK Go.Proofs.Tryd.prog E S (cs_lodgelaw12_OpNames N) :=
  .cons (F_op_Known_ok S N) (.cons (F_op_Ins_ok S N) (.cons (F_lodgelaw12_first_ok S N) (.cons (F_op_Name_ok S N) (.cons (F_op_Named_ok S N) (.nil)))))
noncomputable abbrev b_lodgelaw12_OpNames_0 : Code := (loopsOf b_lodgelaw12_OpNames).getD 0 .skip
theorem g_lodgelaw12_OpNames_0_ok (S : Nat → Addr) (N : Nat) : ∀ n x y, (fun (x : Val (slotsTy h_lodgelaw12_OpNames_0)) => g_lodgelaw12_OpNames_0 N n x.1 x.2.1 x.2.2.1 x.2.2.2.1) x = some y → LoopCon Go.Proofs.Tryd.prog E S b_lodgelaw12_OpNames_0 (encSlots h_lodgelaw12_OpNames_0 x) (encEx e_lodgelaw12_OpNames_0 y).1 (encEx e_lodgelaw12_OpNames_0 y).2 :=
  loop_spec E_ok mixed (cs_lodgelaw12_OpNames_ok S N) (all := loopsOf b_lodgelaw12_OpNames) (ls := []) (.nil) (i := 0) (by kernel_rfl) (inner_of (by kernel_rfl)) (head := h_lodgelaw12_OpNames_0) (ex := e_lodgelaw12_OpNames_0) (fun n (x : Val (slotsTy h_lodgelaw12_OpNames_0)) => g_lodgelaw12_OpNames_0 N n x.1 x.2.1 x.2.2.1 x.2.2.2.1) (fun _ => rfl) (fun n x => by kernel_rfl)
theorem F_lodgelaw12_OpNames_ok (S : Nat → Addr) (N : Nat) : ∀ x y, (c_lodgelaw12_OpNames N).g x = some y → FCon Go.Proofs.Tryd.prog E S 5 ps_lodgelaw12_OpNames rs_lodgelaw12_OpNames x y := by
  intro x y h
  exact fun_spec E_ok mixed (cs_lodgelaw12_OpNames_ok S N) (f := 5) (fi := ⟨b_lodgelaw12_OpNames, 77, Go.Proofs.Tryd.f5.results.toList⟩) (by kernel_rfl) (ls := [l_lodgelaw12_OpNames_0 N]) (.cons (by kernel_rfl) (g_lodgelaw12_OpNames_0_ok S N N) (.nil)) (by kernel_rfl) (ps := ps_lodgelaw12_OpNames) (rs := rs_lodgelaw12_OpNames) (Eq.trans (b := F_lodgelaw12_OpNames N x.1) (by kernel_rfl) h)

/-! lodge/tens.fits -/

abbrev ps_tens_fits : List Ty := [(.int .i64), .bool]
abbrev rs_tens_fits : List Slot := [.data .bool]
abbrev cs_tens_fits (N : Nat) : List CallSpec := []
noncomputable abbrev b_tens_fits : Code := (Go.Proofs.Tryd.f61.body).getD .skip

def F_tens_fits (N : Nat) (n_0 : Int) (wide_1 : Bool) : Option (Bool × Unit) :=
  cond wide_1
    (
    cond (decide ((-(2147483648 : Int)) ≤ n_0))
      (
      some ((decide (n_0 ≤ (2147483647 : Int))), ()))
      (
      some (false, ())))
    (
    cond (decide ((-(128 : Int)) ≤ n_0))
      (
      some ((decide (n_0 ≤ (127 : Int))), ()))
      (
      some (false, ())))

abbrev c_tens_fits (N : Nat) : CallSpec := ⟨61, ps_tens_fits, rs_tens_fits, fun x => F_tens_fits N x.1 x.2.1⟩

theorem cs_tens_fits_ok (S : Nat → Addr) (N : Nat) : CallsOK Go.Proofs.Tryd.prog E S (cs_tens_fits N) :=
  .nil
theorem F_tens_fits_ok (S : Nat → Addr) (N : Nat) : ∀ x y, (c_tens_fits N).g x = some y → FCon Go.Proofs.Tryd.prog E S 61 ps_tens_fits rs_tens_fits x y := by
  intro x y h
  exact fun_spec E_ok mixed (cs_tens_fits_ok S N) (f := 61) (fi := ⟨b_tens_fits, 18, Go.Proofs.Tryd.f61.results.toList⟩) (by kernel_rfl) (ls := []) (.nil) (by kernel_rfl) (ps := ps_tens_fits) (rs := rs_tens_fits) (Eq.trans (b := F_tens_fits N x.1 x.2.1) (by kernel_rfl) h)

/-! lodge/tens.Valid -/

abbrev ps_tens_Valid : List Ty := [(.st (.pair (.st (.pair (.sl (.int .i64)) .bool)) (.sl (.int .i64))))]
abbrev rs_tens_Valid : List Slot := [.data .err]
abbrev cs_tens_Valid (N : Nat) : List CallSpec := [c_shape_Valid N, c_shape_Elems N, c_tens_fits N]
noncomputable abbrev b_tens_Valid : Code := (Go.Proofs.Tryd.f29.body).getD .skip

abbrev h_tens_Valid_0 : List Slot := [.dead, .box [.d (.st (.pair (.st (.pair (.sl (.int .i64)) .bool)) (.sl (.int .i64))))], .dead, .dead, .dead, .dead, .dead, .dead, .dead, .dead, .dead, .dead, .dead, .dead, .dead, .dead, .dead, .dead, .dead, .dead, .dead, .dead, .data (.sl (.int .i64)), .data (.int .i64), .data (.int .i64), .dead, .dead, .dead, .dead, .dead, .dead, .dead, .dead, .dead, .dead, .dead, .dead, .dead, .dead, .dead, .dead]
abbrev e_tens_Valid_0 : List (AX × List Slot) := [(AX.exit 0, [.dead, .dead, .dead, .dead, .dead, .dead, .dead, .dead, .dead, .dead, .dead, .dead, .dead, .dead, .dead, .dead, .dead, .dead, .dead, .dead, .dead, .dead, .dead, .dead, .dead, .dead, .dead, .dead, .dead, .dead, .dead, .dead, .dead, .dead, .dead, .dead, .dead, .dead, .dead, .dead, .dead]), (AX.ret, [.dead, .dead, .data .err, .dead, .dead, .dead, .dead, .dead, .dead, .dead, .dead, .dead, .dead, .dead, .dead, .dead, .dead, .dead, .dead, .dead, .dead, .dead, .dead, .dead, .dead, .dead, .dead, .dead, .dead, .dead, .dead, .dead, .dead, .dead, .dead, .dead, .dead, .dead, .dead, .dead, .dead])]
def g_tens_Valid_0 (N : Nat) : Nat → (((List Int × Bool) × List Int) × Unit) → List Int → Int → Int → Option (Sum Unit (Er × Unit))
  | 0, _, _, _, _ => none
  | n + 1, t_1, t_22, t_23, t_24 =>
    cond (decide (t_24 < t_23))
      (
      cond (decide ((0 : Int) ≤ t_24))
        (
        cond (decide ((Int.toNat t_24) < (List.length t_22)))
          (
          Option.bind (F_tens_fits N (List.getD t_22 (Int.toNat t_24) (0 : Int)) (((t_1).1).1).2) fun y3 =>
          cond (Bool.not (y3).1)
            (
            some (Sum.inr ((Go.Eng.Er.at t_24 ErrRange), ())))
            (
            (g_tens_Valid_0 N n t_1 t_22 t_23 (wi64 (t_24 + (1 : Int))))))
          (
          none))
        (
        none))
      (
      some (Sum.inl ()))

def F_tens_Valid (N : Nat) (t_0 : ((List Int × Bool) × List Int)) : Option (Er × Unit) :=
  Option.bind (F_shape_Valid N (t_0).1) fun y0 =>
  cond (Bool.not (Go.Eng.Er.isNil (y0).1))
    (
    some y0)
    (
    Option.bind (F_shape_Elems N ((t_0).1).1) fun y1 =>
    cond (decide (@Ne Int (Nat.cast (List.length (t_0).2) : Int) (y1).1))
      (
      some ((Go.Eng.Er.s ErrShape), ()))
      (
      Option.bind (g_tens_Valid_0 N N (t_0, ()) (t_0).2 (Nat.cast (List.length (t_0).2) : Int) (0 : Int)) fun y2 =>
      Sum.elim (fun y3 =>
        some (Go.Eng.Er.nil, ()))
        (fun y4 =>
        some y4) y2))

abbrev c_tens_Valid (N : Nat) : CallSpec := ⟨29, ps_tens_Valid, rs_tens_Valid, fun x => F_tens_Valid N x.1⟩
abbrev l_tens_Valid_0 (N : Nat) : LoopSpec := ⟨0, h_tens_Valid_0, e_tens_Valid_0, fun x => g_tens_Valid_0 N N x.1 x.2.1 x.2.2.1 x.2.2.2.1⟩

theorem cs_tens_Valid_ok (S : Nat → Addr) (N : Nat) : CallsOK Go.Proofs.Tryd.prog E S (cs_tens_Valid N) :=
  .cons (F_shape_Valid_ok S N) (.cons (F_shape_Elems_ok S N) (.cons (F_tens_fits_ok S N) (.nil)))
noncomputable abbrev b_tens_Valid_0 : Code := (loopsOf b_tens_Valid).getD 0 .skip
theorem g_tens_Valid_0_ok (S : Nat → Addr) (N : Nat) : ∀ n x y, (fun (x : Val (slotsTy h_tens_Valid_0)) => g_tens_Valid_0 N n x.1 x.2.1 x.2.2.1 x.2.2.2.1) x = some y → LoopCon Go.Proofs.Tryd.prog E S b_tens_Valid_0 (encSlots h_tens_Valid_0 x) (encEx e_tens_Valid_0 y).1 (encEx e_tens_Valid_0 y).2 :=
  loop_spec E_ok mixed (cs_tens_Valid_ok S N) (all := loopsOf b_tens_Valid) (ls := []) (.nil) (i := 0) (by kernel_rfl) (inner_of (by kernel_rfl)) (head := h_tens_Valid_0) (ex := e_tens_Valid_0) (fun n (x : Val (slotsTy h_tens_Valid_0)) => g_tens_Valid_0 N n x.1 x.2.1 x.2.2.1 x.2.2.2.1) (fun _ => rfl) (fun n x => by kernel_rfl)
theorem F_tens_Valid_ok (S : Nat → Addr) (N : Nat) : ∀ x y, (c_tens_Valid N).g x = some y → FCon Go.Proofs.Tryd.prog E S 29 ps_tens_Valid rs_tens_Valid x y := by
  intro x y h
  exact fun_spec E_ok mixed (cs_tens_Valid_ok S N) (f := 29) (fi := ⟨b_tens_Valid, 41, Go.Proofs.Tryd.f29.results.toList⟩) (by kernel_rfl) (ls := [l_tens_Valid_0 N]) (.cons (by kernel_rfl) (g_tens_Valid_0_ok S N N) (.nil)) (by kernel_rfl) (ps := ps_tens_Valid) (rs := rs_tens_Valid) (Eq.trans (b := F_tens_Valid N x.1) (by kernel_rfl) h)

/-! lodge/op.result -/

abbrev ps_op_result : List Ty := [(.int .i64), (.sl (.int .i64)), (.sl (.st (.pair (.st (.pair (.sl (.int .i64)) .bool)) (.sl (.int .i64)))))]
abbrev rs_op_result : List Slot := [.data (.st (.pair (.sl (.int .i64)) .bool)), .data (.sl (.st (.pair (.sl (.int .i64)) .bool))), .data .err]
abbrev cs_op_result (N : Nat) : List CallSpec := [c_op_Result N, c_tens_Valid N]
noncomputable abbrev b_op_result : Code := (Go.Proofs.Tryd.f54.body).getD .skip

abbrev h_op_result_0 : List Slot := [.data (.int .i64), .data (.sl (.int .i64)), .dead, .dead, .dead, .dead, .box [.sl (.int .i64), .d .bool], .dead, .dead, .sl (.st (.pair (.sl (.int .i64)) .bool)), .dead, .dead, .dead, .dead, .dead, .data (.sl (.st (.pair (.st (.pair (.sl (.int .i64)) .bool)) (.sl (.int .i64))))), .data (.int .i64), .data (.int .i64), .dead, .dead, .dead, .dead, .dead, .dead, .dead, .dead, .dead, .dead, .dead, .dead, .dead, .dead, .dead, .dead, .dead, .dead, .dead, .dead, .dead, .dead, .dead, .dead, .dead]
abbrev e_op_result_0 : List (AX × List Slot) := [(AX.exit 0, [.data (.int .i64), .data (.sl (.int .i64)), .dead, .dead, .dead, .dead, .box [.sl (.int .i64), .d .bool], .dead, .dead, .sl (.st (.pair (.sl (.int .i64)) .bool)), .dead, .dead, .dead, .dead, .dead, .dead, .dead, .dead, .dead, .dead, .dead, .dead, .dead, .dead, .dead, .dead, .dead, .dead, .dead, .dead, .dead, .dead, .dead, .dead, .dead, .dead, .dead, .dead, .dead, .dead, .dead, .dead, .dead]), (AX.ret, [.dead, .dead, .dead, .dead, .dead, .dead, .box [.sl (.int .i64), .d .bool], .sl (.st (.pair (.sl (.int .i64)) .bool)), .data .err, .dead, .dead, .dead, .dead, .dead, .dead, .dead, .dead, .dead, .dead, .dead, .dead, .dead, .dead, .dead, .dead, .dead, .dead, .dead, .dead, .dead, .dead, .dead, .dead, .dead, .dead, .dead, .dead, .dead, .dead, .dead, .dead, .dead, .dead])]
def g_op_result_0 (N : Nat) : Nat → Int → List Int → (List Int × (Bool × Unit)) → List ((List Int × Bool)) → List (((List Int × Bool) × List Int)) → Int → Int → Option (Sum (Int × (List Int × ((List Int × (Bool × Unit)) × (List ((List Int × Bool)) × Unit)))) ((List Int × (Bool × Unit)) × (List ((List Int × Bool)) × (Er × Unit))))
  | 0, _, _, _, _, _, _, _ => none
  | n + 1, op_0, args_1, t_6, descs_9, t_15, t_16, t_17 =>
    cond (decide (t_17 < t_16))
      (
      cond (decide ((0 : Int) ≤ t_17))
        (
        cond (decide ((Int.toNat t_17) < (List.length t_15)))
          (
          Option.bind (F_tens_Valid N (List.getD t_15 (Int.toNat t_17) ((([] : List Int), false), ([] : List Int)))) fun y1 =>
          cond (Bool.not (Go.Eng.Er.isNil (y1).1))
            (
            some (Sum.inr ((([] : List Int), (false, ())), (([] : List ((List Int) × Bool)), y1))))
            (
            cond (decide (((0 : Nat) + (List.length descs_9)) = (List.length descs_9)))
              (
              cond (decide ((((List.length descs_9) + 1) * (32 + (1 : Nat))) ≤ Go.Eng.most))
                (
                cond (decide ((List.length (t_6).1) = (List.length (t_6).1)))
                  (
                  cond (decide (((List.length descs_9) + 1) = (List.length ((List.take (List.length descs_9) descs_9) ++ (((List.getD t_15 (Int.toNat t_17) ((([] : List Int), false), ([] : List Int)))).1 :: ([] : List ((List Int) × Bool)))))))
                    (
                    (g_op_result_0 N n op_0 args_1 t_6 ((List.take (List.length descs_9) descs_9) ++ (((List.getD t_15 (Int.toNat t_17) ((([] : List Int), false), ([] : List Int)))).1 :: ([] : List ((List Int) × Bool)))) t_15 t_16 (wi64 (t_17 + (1 : Int)))))
                    (
                    none))
                  (
                  none))
                (
                none))
              (
              none)))
          (
          none))
        (
        none))
      (
      cond (decide ((List.length (t_6).1) = (List.length (t_6).1)))
        (
        cond (decide ((List.length descs_9) = (List.length descs_9)))
          (
          some (Sum.inl (op_0, (args_1, (t_6, (descs_9, ()))))))
          (
          none))
        (
        none))

def F_op_result (N : Nat) (op_0 : Int) (args_1 : List Int) (ins_2 : List (((List Int × Bool) × List Int))) : Option ((List Int × Bool) × (List ((List Int × Bool)) × (Er × Unit))) :=
  Option.bind (g_op_result_0 N N op_0 args_1 (([] : List Int), (false, ())) ([] : List ((List Int) × Bool)) ins_2 (Nat.cast (List.length ins_2) : Int) (0 : Int)) fun y0 =>
  Sum.elim (fun y1 =>
    cond (decide (((0 : Nat) + (List.length ((((y1).2).2).2).1)) ≤ (List.length ((((y1).2).2).2).1)))
      (
      Option.bind (F_op_Result N (y1).1 ((y1).2).1 (List.take (List.length ((((y1).2).2).2).1) ((((y1).2).2).2).1)) fun y2 =>
      cond (decide (((0 : Nat) + (List.length ((((y1).2).2).2).1)) ≤ (List.length ((((y1).2).2).2).1)))
        (
        some ((y2).1, ((List.take (List.length ((((y1).2).2).2).1) ((((y1).2).2).2).1), (y2).2)))
        (
        none))
      (
      none))
    (fun y3 =>
    cond (decide (((0 : Nat) + (List.length ((y3).1).1)) ≤ (List.length ((y3).1).1)))
      (
      cond (decide (((0 : Nat) + (List.length ((y3).2).1)) ≤ (List.length ((y3).2).1)))
        (
        some (((List.take (List.length ((y3).1).1) ((y3).1).1), (((y3).1).2).1), ((List.take (List.length ((y3).2).1) ((y3).2).1), ((y3).2).2)))
        (
        none))
      (
      none)) y0

abbrev c_op_result (N : Nat) : CallSpec := ⟨54, ps_op_result, rs_op_result, fun x => F_op_result N x.1 x.2.1 x.2.2.1⟩
abbrev l_op_result_0 (N : Nat) : LoopSpec := ⟨0, h_op_result_0, e_op_result_0, fun x => g_op_result_0 N N x.1 x.2.1 x.2.2.1 x.2.2.2.1 x.2.2.2.2.1 x.2.2.2.2.2.1 x.2.2.2.2.2.2.1⟩

theorem cs_op_result_ok (S : Nat → Addr) (N : Nat) : CallsOK Go.Proofs.Tryd.prog E S (cs_op_result N) :=
  .cons (F_op_Result_ok S N) (.cons (F_tens_Valid_ok S N) (.nil))
noncomputable abbrev b_op_result_0 : Code := (loopsOf b_op_result).getD 0 .skip
theorem g_op_result_0_ok (S : Nat → Addr) (N : Nat) : ∀ n x y, (fun (x : Val (slotsTy h_op_result_0)) => g_op_result_0 N n x.1 x.2.1 x.2.2.1 x.2.2.2.1 x.2.2.2.2.1 x.2.2.2.2.2.1 x.2.2.2.2.2.2.1) x = some y → LoopCon Go.Proofs.Tryd.prog E S b_op_result_0 (encSlots h_op_result_0 x) (encEx e_op_result_0 y).1 (encEx e_op_result_0 y).2 :=
  loop_spec E_ok mixed (cs_op_result_ok S N) (all := loopsOf b_op_result) (ls := []) (.nil) (i := 0) (by kernel_rfl) (inner_of (by kernel_rfl)) (head := h_op_result_0) (ex := e_op_result_0) (fun n (x : Val (slotsTy h_op_result_0)) => g_op_result_0 N n x.1 x.2.1 x.2.2.1 x.2.2.2.1 x.2.2.2.2.1 x.2.2.2.2.2.1 x.2.2.2.2.2.2.1) (fun _ => rfl) (fun n x => by kernel_rfl)
theorem F_op_result_ok (S : Nat → Addr) (N : Nat) : ∀ x y, (c_op_result N).g x = some y → FCon Go.Proofs.Tryd.prog E S 54 ps_op_result rs_op_result x y := by
  intro x y h
  exact fun_spec E_ok mixed (cs_op_result_ok S N) (f := 54) (fi := ⟨b_op_result, 43, Go.Proofs.Tryd.f54.results.toList⟩) (by kernel_rfl) (ls := [l_op_result_0 N]) (.cons (by kernel_rfl) (g_op_result_0_ok S N N) (.nil)) (by kernel_rfl) (ps := ps_op_result) (rs := rs_op_result) (Eq.trans (b := F_op_result N x.1 x.2.1 x.2.2.1) (by kernel_rfl) h)

/-! lodge/op.reads$1 -/

abbrev ps_op_reads_1 : List Ty := [(.int .i64), (.ref (.st (.pair (.st (.pair (.sl (.int .i64)) .bool)) (.sl (.int .i64)))))]
abbrev rs_op_reads_1 : List Slot := [.data (.int .i64)]
abbrev cs_op_reads_1 (N : Nat) : List CallSpec := []
noncomputable abbrev b_op_reads_1 : Code := (Go.Proofs.Tryd.f77.body).getD .skip

def F_op_reads_1 (N : Nat) (i_0 : Int) (t_1 : ((List Int × Bool) × List Int)) : Option (Int × Unit) :=
  cond (decide ((0 : Int) ≤ i_0))
    (
    cond (decide ((Int.toNat i_0) < (List.length (t_1).2)))
      (
      some ((List.getD (t_1).2 (Int.toNat i_0) (0 : Int)), ()))
      (
      none))
    (
    none)

abbrev c_op_reads_1 (N : Nat) : CallSpec := ⟨77, ps_op_reads_1, rs_op_reads_1, fun x => F_op_reads_1 N x.1 x.2.1⟩

theorem cs_op_reads_1_ok (S : Nat → Addr) (N : Nat) : CallsOK Go.Proofs.Tryd.prog E S (cs_op_reads_1 N) :=
  .nil
theorem F_op_reads_1_ok (S : Nat → Addr) (N : Nat) : ∀ x y, (c_op_reads_1 N).g x = some y → FCon Go.Proofs.Tryd.prog E S 77 ps_op_reads_1 rs_op_reads_1 x y := by
  intro x y h
  exact fun_spec E_ok mixed (cs_op_reads_1_ok S N) (f := 77) (fi := ⟨b_op_reads_1, 9, Go.Proofs.Tryd.f77.results.toList⟩) (by kernel_rfl) (ls := []) (.nil) (by kernel_rfl) (ps := ps_op_reads_1) (rs := rs_op_reads_1) (Eq.trans (b := F_op_reads_1 N x.1 x.2.1) (by kernel_rfl) h)

/-! lodge/op.reads -/

abbrev ps_op_reads : List Ty := [(.sl (.st (.pair (.st (.pair (.sl (.int .i64)) .bool)) (.sl (.int .i64)))))]
abbrev rs_op_reads : List Slot := [.sl (.clo 77 (.ref (.st (.pair (.st (.pair (.sl (.int .i64)) .bool)) (.sl (.int .i64))))))]
abbrev cs_op_reads (N : Nat) : List CallSpec := [c_op_reads_1 N]
noncomputable abbrev b_op_reads : Code := (Go.Proofs.Tryd.f55.body).getD .skip

abbrev h_op_reads_0 : List Slot := [.dead, .dead, .dead, .sl (.clo 77 (.ref (.st (.pair (.st (.pair (.sl (.int .i64)) .bool)) (.sl (.int .i64)))))), .dead, .dead, .data (.sl (.st (.pair (.st (.pair (.sl (.int .i64)) .bool)) (.sl (.int .i64))))), .data (.int .i64), .data (.int .i64), .dead, .dead, .dead, .dead, .dead, .dead, .dead, .dead, .dead]
abbrev e_op_reads_0 : List (AX × List Slot) := [(AX.exit 0, [.dead, .dead, .dead, .sl (.clo 77 (.ref (.st (.pair (.st (.pair (.sl (.int .i64)) .bool)) (.sl (.int .i64)))))), .dead, .dead, .dead, .dead, .dead, .dead, .dead, .dead, .dead, .dead, .dead, .dead, .dead, .dead])]
def g_op_reads_0 (N : Nat) : Nat → List ((List Int × Bool) × List Int) → List (((List Int × Bool) × List Int)) → Int → Int → Option (List ((List Int × Bool) × List Int) × Unit)
  | 0, _, _, _, _ => none
  | n + 1, l_3, t_6, t_7, t_8 =>
    cond (decide (t_8 < t_7))
      (
      cond (decide ((0 : Int) ≤ t_8))
        (
        cond (decide ((Int.toNat t_8) < (List.length t_6)))
          (
          cond (decide (((0 : Nat) + (List.length l_3)) = (List.length l_3)))
            (
            cond (decide ((((List.length l_3) + 1) * (8 + (1 : Nat))) ≤ Go.Eng.most))
              (
              cond (decide (((List.length l_3) + 1) = (List.length ((List.take (List.length l_3) l_3) ++ ((List.getD t_6 (Int.toNat t_8) ((([] : List Int), false), ([] : List Int))) :: ([] : List (((List Int) × Bool) × (List Int))))))))
                (
                (g_op_reads_0 N n ((List.take (List.length l_3) l_3) ++ ((List.getD t_6 (Int.toNat t_8) ((([] : List Int), false), ([] : List Int))) :: ([] : List (((List Int) × Bool) × (List Int))))) t_6 t_7 (wi64 (t_8 + (1 : Int)))))
                (
                none))
              (
              none))
            (
            none))
          (
          none))
        (
        none))
      (
      cond (decide ((List.length l_3) = (List.length l_3)))
        (
        some (l_3, ()))
        (
        none))

def F_op_reads (N : Nat) (ins_0 : List (((List Int × Bool) × List Int))) : Option (List ((List Int × Bool) × List Int) × Unit) :=
  Option.bind (g_op_reads_0 N N ([] : List (((List Int) × Bool) × (List Int))) ins_0 (Nat.cast (List.length ins_0) : Int) (0 : Int)) fun y0 =>
  cond (decide ((List.length (y0).1) = (List.length (y0).1)))
    (
    some y0)
    (
    none)

abbrev c_op_reads (N : Nat) : CallSpec := ⟨55, ps_op_reads, rs_op_reads, fun x => F_op_reads N x.1⟩
abbrev l_op_reads_0 (N : Nat) : LoopSpec := ⟨0, h_op_reads_0, e_op_reads_0, fun x => g_op_reads_0 N N x.1 x.2.1 x.2.2.1 x.2.2.2.1⟩

theorem cs_op_reads_ok (S : Nat → Addr) (N : Nat) : CallsOK Go.Proofs.Tryd.prog E S (cs_op_reads N) :=
  .cons (F_op_reads_1_ok S N) (.nil)
noncomputable abbrev b_op_reads_0 : Code := (loopsOf b_op_reads).getD 0 .skip
theorem g_op_reads_0_ok (S : Nat → Addr) (N : Nat) : ∀ n x y, (fun (x : Val (slotsTy h_op_reads_0)) => g_op_reads_0 N n x.1 x.2.1 x.2.2.1 x.2.2.2.1) x = some y → LoopCon Go.Proofs.Tryd.prog E S b_op_reads_0 (encSlots h_op_reads_0 x) (encEx e_op_reads_0 y).1 (encEx e_op_reads_0 y).2 :=
  loop_spec E_ok mixed (cs_op_reads_ok S N) (all := loopsOf b_op_reads) (ls := []) (.nil) (i := 0) (by kernel_rfl) (inner_of (by kernel_rfl)) (head := h_op_reads_0) (ex := e_op_reads_0) (fun n (x : Val (slotsTy h_op_reads_0)) => g_op_reads_0 N n x.1 x.2.1 x.2.2.1 x.2.2.2.1) (fun _ => rfl) (fun n x => by kernel_rfl)
theorem F_op_reads_ok (S : Nat → Addr) (N : Nat) : ∀ x y, (c_op_reads N).g x = some y → FCon Go.Proofs.Tryd.prog E S 55 ps_op_reads rs_op_reads x y := by
  intro x y h
  exact fun_spec E_ok mixed (cs_op_reads_ok S N) (f := 55) (fi := ⟨b_op_reads, 18, Go.Proofs.Tryd.f55.results.toList⟩) (by kernel_rfl) (ls := [l_op_reads_0 N]) (.cons (by kernel_rfl) (g_op_reads_0_ok S N N) (.nil)) (by kernel_rfl) (ps := ps_op_reads) (rs := rs_op_reads) (Eq.trans (b := F_op_reads N x.1) (by kernel_rfl) h)

/-! lodge/tens.Wide -/

abbrev ps_tens_Wide : List Ty := [(.int .i64)]
abbrev rs_tens_Wide : List Slot := [.data (.int .i64)]
abbrev cs_tens_Wide (N : Nat) : List CallSpec := []
noncomputable abbrev b_tens_Wide : Code := (Go.Proofs.Tryd.f89.body).getD .skip

def F_tens_Wide (N : Nat) (n_0 : Int) : Option (Int × Unit) :=
  some ((wi64 (wi32 (wu32 (wu64 n_0)))), ())

abbrev c_tens_Wide (N : Nat) : CallSpec := ⟨89, ps_tens_Wide, rs_tens_Wide, fun x => F_tens_Wide N x.1⟩

theorem cs_tens_Wide_ok (S : Nat → Addr) (N : Nat) : CallsOK Go.Proofs.Tryd.prog E S (cs_tens_Wide N) :=
  .nil
theorem F_tens_Wide_ok (S : Nat → Addr) (N : Nat) : ∀ x y, (c_tens_Wide N).g x = some y → FCon Go.Proofs.Tryd.prog E S 89 ps_tens_Wide rs_tens_Wide x y := by
  intro x y h
  exact fun_spec E_ok mixed (cs_tens_Wide_ok S N) (f := 89) (fi := ⟨b_tens_Wide, 8, Go.Proofs.Tryd.f89.results.toList⟩) (by kernel_rfl) (ls := []) (.nil) (by kernel_rfl) (ps := ps_tens_Wide) (rs := rs_tens_Wide) (Eq.trans (b := F_tens_Wide N x.1) (by kernel_rfl) h)


end Go.Proofs.YtnblnlanicpagaaDoor.Lg
