/-
  The functions of the seat's program, as plain functions.
-/
import Derived.Test.YtohkmbpdjigjdaaDoorLgSoftBFa
namespace Go.Proofs.YtohkmbpdjigjdaaDoor.Lg
open Go Go.Eng Go.Proofs
set_option maxRecDepth 100000

/-! lodge/soft.At -/

abbrev ps_soft_At : List Ty := [(.int .i64), (.int .i64), (.sl (.st (.pair (.sl (.int .i64)) .bool))), (.sl (.clo 72 (.ref (.st (.pair (.st (.pair (.sl (.int .i64)) .bool)) (.sl (.int .i64)))))))]
abbrev rs_soft_At : List Slot := [.data (.int .i64)]
abbrev cs_soft_At (N : Nat) : List CallSpec := [c_soft_reads_1 N, c_soft_softmax N, c_tens_Wide N]
noncomputable abbrev b_soft_At : Code := (Go.Proofs.Tryd.f41.body).getD .skip

abbrev h_soft_At_1 : List Slot := [.dead, .data (.int .i64), .dead, .dead, .dead, .dead, .dead, .dead, .dead, .dead, .data (.int .i64), .data (.clo 72 (.ref (.st (.pair (.st (.pair (.sl (.int .i64)) .bool)) (.sl (.int .i64)))))), .dead, .dead, .data (.int .i64), .dead, .dead, .dead, .dead, .dead, .dead, .dead, .dead, .dead, .dead, .dead, .dead, .dead, .dead, .dead, .dead, .dead, .dead, .dead, .dead, .dead, .dead, .dead, .dead, .dead, .dead, .dead, .dead, .dead, .dead, .dead, .dead, .dead, .dead, .dead, .dead, .dead, .dead, .dead, .dead, .dead, .dead, .dead, .dead, .dead, .dead, .dead, .dead, .dead, .dead, .dead, .data (.int .i64), .data (.int .i64), .dead, .dead, .dead, .dead, .dead, .dead, .dead, .dead, .dead, .dead, .dead, .dead, .dead, .dead, .dead, .dead, .dead, .dead, .dead, .dead, .dead, .dead, .dead, .dead, .dead, .dead, .dead, .dead, .dead, .dead, .dead, .dead, .dead, .dead, .dead, .dead]
abbrev e_soft_At_1 : List (AX × List Slot) := [(AX.exit 3, [.dead, .dead, .dead, .dead, .dead, .dead, .dead, .dead, .dead, .dead, .dead, .dead, .dead, .dead, .data (.int .i64), .dead, .dead, .dead, .dead, .dead, .dead, .dead, .dead, .dead, .dead, .dead, .dead, .dead, .dead, .dead, .dead, .dead, .dead, .dead, .dead, .dead, .dead, .dead, .dead, .dead, .dead, .dead, .dead, .dead, .dead, .dead, .dead, .dead, .dead, .dead, .dead, .dead, .dead, .dead, .dead, .dead, .dead, .dead, .dead, .dead, .dead, .dead, .dead, .dead, .dead, .dead, .dead, .dead, .dead, .dead, .dead, .dead, .dead, .dead, .dead, .dead, .dead, .dead, .dead, .dead, .dead, .dead, .dead, .dead, .dead, .dead, .dead, .dead, .dead, .dead, .dead, .dead, .dead, .dead, .dead, .dead, .dead, .dead, .dead, .dead, .dead, .dead, .dead, .dead])]
def g_soft_At_1 (N : Nat) : Nat → Int → Int → ((List Int × Bool) × List Int) → Int → Int → Int → Option (Int × Unit)
  | 0, _, _, _, _, _, _ => none
  | n + 1, i_1, n_10, get_11, s_14, t_66, t_67 =>
    cond (decide (t_67 < t_66))
      (
      Option.bind (F_soft_reads_1 N (wi64 ((wi64 (i_1 * n_10)) + t_67)) get_11) fun y3 =>
      (g_soft_At_1 N n i_1 n_10 get_11 (wi64 (s_14 + (y3).1)) t_66 (wi64 (t_67 + (1 : Int)))))
      (
      some (s_14, ()))

abbrev h_soft_At_0 : List Slot := [.dead, .data (.int .i64), .dead, .dead, .dead, .dead, .dead, .dead, .dead, .dead, .data (.int .i64), .data (.clo 72 (.ref (.st (.pair (.st (.pair (.sl (.int .i64)) .bool)) (.sl (.int .i64)))))), .data (.int .i64), .dead, .dead, .dead, .dead, .dead, .dead, .dead, .dead, .dead, .dead, .dead, .dead, .dead, .dead, .dead, .dead, .dead, .dead, .dead, .dead, .dead, .dead, .dead, .dead, .dead, .dead, .dead, .dead, .dead, .data (.int .i64), .data (.int .i64), .dead, .dead, .dead, .dead, .dead, .dead, .dead, .dead, .dead, .dead, .dead, .dead, .dead, .dead, .dead, .dead, .dead, .dead, .dead, .dead, .dead, .dead, .dead, .dead, .dead, .dead, .dead, .dead, .dead, .dead, .dead, .dead, .dead, .dead, .dead, .dead, .dead, .dead, .dead, .dead, .dead, .dead, .dead, .dead, .dead, .dead, .dead, .dead, .dead, .dead, .dead, .dead, .dead, .dead, .dead, .dead, .dead, .dead, .dead, .dead]
abbrev e_soft_At_0 : List (AX × List Slot) := [(AX.exit 1, [.dead, .dead, .dead, .dead, .dead, .dead, .dead, .dead, .dead, .dead, .dead, .dead, .data (.int .i64), .dead, .dead, .dead, .dead, .dead, .dead, .dead, .dead, .dead, .dead, .dead, .dead, .dead, .dead, .dead, .dead, .dead, .dead, .dead, .dead, .dead, .dead, .dead, .dead, .dead, .dead, .dead, .dead, .dead, .dead, .dead, .dead, .dead, .dead, .dead, .dead, .dead, .dead, .dead, .dead, .dead, .dead, .dead, .dead, .dead, .dead, .dead, .dead, .dead, .dead, .dead, .dead, .dead, .dead, .dead, .dead, .dead, .dead, .dead, .dead, .dead, .dead, .dead, .dead, .dead, .dead, .dead, .dead, .dead, .dead, .dead, .dead, .dead, .dead, .dead, .dead, .dead, .dead, .dead, .dead, .dead, .dead, .dead, .dead, .dead, .dead, .dead, .dead, .dead, .dead, .dead])]
def g_soft_At_0 (N : Nat) : Nat → Int → Int → ((List Int × Bool) × List Int) → Int → Int → Int → Option (Int × Unit)
  | 0, _, _, _, _, _, _ => none
  | n + 1, i_1, n_10, get_11, best_12, t_42, t_43 =>
    cond (decide (t_43 < t_42))
      (
      Option.bind (F_soft_reads_1 N (wi64 ((wi64 (i_1 * n_10)) + t_43)) get_11) fun y8 =>
      Option.bind (F_soft_reads_1 N (wi64 ((wi64 (i_1 * n_10)) + best_12)) get_11) fun y9 =>
      cond (decide ((y9).1 < (y8).1))
        (
        (g_soft_At_0 N n i_1 n_10 get_11 t_43 t_42 (wi64 (t_43 + (1 : Int)))))
        (
        (g_soft_At_0 N n i_1 n_10 get_11 best_12 t_42 (wi64 (t_43 + (1 : Int))))))
      (
      some (best_12, ()))

def F_soft_At (N : Nat) (op_0 : Int) (i_1 : Int) (descs_2 : List ((List Int × Bool))) (ins_3 : List ((List Int × Bool) × List Int)) : Option (Int × Unit) :=
  cond (decide (0 < (List.length descs_2)))
    (
    cond (decide ((0 : Int) ≤ (wi64 ((Nat.cast (List.length ((List.getD descs_2 0 (([] : List Int), false))).1) : Int) - (1 : Int)))))
      (
      cond (decide ((Int.toNat (wi64 ((Nat.cast (List.length ((List.getD descs_2 0 (([] : List Int), false))).1) : Int) - (1 : Int)))) < (List.length ((List.getD descs_2 0 (([] : List Int), false))).1)))
        (
        cond (decide (0 < (List.length ins_3)))
          (
          cond (decide (op_0 = (16 : Int)))
            (
            cond (decide (1 < (List.length ins_3)))
              (
              Option.bind (F_soft_softmax N (List.getD ins_3 0 ((([] : List Int), false), ([] : List Int))) (List.getD ins_3 1 ((([] : List Int), false), ([] : List Int))) i_1 (List.getD ((List.getD descs_2 0 (([] : List Int), false))).1 (Int.toNat (wi64 ((Nat.cast (List.length ((List.getD descs_2 0 (([] : List Int), false))).1) : Int) - (1 : Int)))) (0 : Int))) fun y0 =>
              some y0)
              (
              none))
            (
            cond (decide (op_0 = (19 : Int)))
              (
              Option.bind (g_soft_At_0 N N i_1 (List.getD ((List.getD descs_2 0 (([] : List Int), false))).1 (Int.toNat (wi64 ((Nat.cast (List.length ((List.getD descs_2 0 (([] : List Int), false))).1) : Int) - (1 : Int)))) (0 : Int)) (List.getD ins_3 0 ((([] : List Int), false), ([] : List Int))) (0 : Int) (List.getD ((List.getD descs_2 0 (([] : List Int), false))).1 (Int.toNat (wi64 ((Nat.cast (List.length ((List.getD descs_2 0 (([] : List Int), false))).1) : Int) - (1 : Int)))) (0 : Int)) (0 : Int)) fun y1 =>
              some y1)
              (
              cond (decide (op_0 = (20 : Int)))
                (
                Option.bind (g_soft_At_1 N N i_1 (List.getD ((List.getD descs_2 0 (([] : List Int), false))).1 (Int.toNat (wi64 ((Nat.cast (List.length ((List.getD descs_2 0 (([] : List Int), false))).1) : Int) - (1 : Int)))) (0 : Int)) (List.getD ins_3 0 ((([] : List Int), false), ([] : List Int))) (0 : Int) (List.getD ((List.getD descs_2 0 (([] : List Int), false))).1 (Int.toNat (wi64 ((Nat.cast (List.length ((List.getD descs_2 0 (([] : List Int), false))).1) : Int) - (1 : Int)))) (0 : Int)) (0 : Int)) fun y2 =>
                Option.bind (F_tens_Wide N (y2).1) fun y3 =>
                some y3)
                (
                cond (decide (1 < (List.length ins_3)))
                  (
                  cond (decide (@Ne Int (List.getD ((List.getD descs_2 0 (([] : List Int), false))).1 (Int.toNat (wi64 ((Nat.cast (List.length ((List.getD descs_2 0 (([] : List Int), false))).1) : Int) - (1 : Int)))) (0 : Int)) (0 : Int)))
                    (
                    Option.bind (F_soft_reads_1 N (wi64 (Int.tdiv i_1 (List.getD ((List.getD descs_2 0 (([] : List Int), false))).1 (Int.toNat (wi64 ((Nat.cast (List.length ((List.getD descs_2 0 (([] : List Int), false))).1) : Int) - (1 : Int)))) (0 : Int)))) (List.getD ins_3 1 ((([] : List Int), false), ([] : List Int)))) fun y4 =>
                    cond (decide (0 < (List.length ((List.getD descs_2 0 (([] : List Int), false))).1)))
                      (
                      cond (decide (@Ne Int (List.getD ((List.getD descs_2 0 (([] : List Int), false))).1 (Int.toNat (wi64 ((Nat.cast (List.length ((List.getD descs_2 0 (([] : List Int), false))).1) : Int) - (1 : Int)))) (0 : Int)) (0 : Int)))
                        (
                        Option.bind (F_soft_reads_1 N (wi64 ((wi64 ((Go.Eng.imax (0 : Int) (Go.Eng.imin (y4).1 (wi64 ((List.getD ((List.getD descs_2 0 (([] : List Int), false))).1 0 (0 : Int)) - (1 : Int))))) * (List.getD ((List.getD descs_2 0 (([] : List Int), false))).1 (Int.toNat (wi64 ((Nat.cast (List.length ((List.getD descs_2 0 (([] : List Int), false))).1) : Int) - (1 : Int)))) (0 : Int)))) + (Int.tmod i_1 (List.getD ((List.getD descs_2 0 (([] : List Int), false))).1 (Int.toNat (wi64 ((Nat.cast (List.length ((List.getD descs_2 0 (([] : List Int), false))).1) : Int) - (1 : Int)))) (0 : Int))))) (List.getD ins_3 0 ((([] : List Int), false), ([] : List Int)))) fun y5 =>
                        some y5)
                        (
                        none))
                      (
                      none))
                    (
                    none))
                  (
                  none)))))
          (
          none))
        (
        none))
      (
      none))
    (
    none)

abbrev c_soft_At (N : Nat) : CallSpec := ⟨41, ps_soft_At, rs_soft_At, fun x => F_soft_At N x.1 x.2.1 x.2.2.1 x.2.2.2.1⟩
abbrev l_soft_At_1 (N : Nat) : LoopSpec := ⟨1, h_soft_At_1, e_soft_At_1, fun x => g_soft_At_1 N N x.1 x.2.1 x.2.2.1 x.2.2.2.1 x.2.2.2.2.1 x.2.2.2.2.2.1⟩
abbrev l_soft_At_0 (N : Nat) : LoopSpec := ⟨0, h_soft_At_0, e_soft_At_0, fun x => g_soft_At_0 N N x.1 x.2.1 x.2.2.1 x.2.2.2.1 x.2.2.2.2.1 x.2.2.2.2.2.1⟩

theorem cs_soft_At_ok (S : Nat → Addr) (N : Nat) : CallsOK Go.Proofs.Tryd.prog E S (cs_soft_At N) :=
  .cons (F_soft_reads_1_ok S N) (.cons (F_soft_softmax_ok S N) (.cons (F_tens_Wide_ok S N) (.nil)))
noncomputable abbrev b_soft_At_1 : Code := (loopsOf b_soft_At).getD 1 .skip
theorem g_soft_At_1_ok (S : Nat → Addr) (N : Nat) : ∀ n x y, (fun (x : Val (slotsTy h_soft_At_1)) => g_soft_At_1 N n x.1 x.2.1 x.2.2.1 x.2.2.2.1 x.2.2.2.2.1 x.2.2.2.2.2.1) x = some y → LoopCon Go.Proofs.Tryd.prog E S b_soft_At_1 (encSlots h_soft_At_1 x) (encEx e_soft_At_1 y).1 (encEx e_soft_At_1 y).2 :=
  loop_spec E_ok mixed (cs_soft_At_ok S N) (all := loopsOf b_soft_At) (ls := []) (.nil) (i := 1) (by kernel_rfl) (inner_of (by kernel_rfl)) (head := h_soft_At_1) (ex := e_soft_At_1) (fun n (x : Val (slotsTy h_soft_At_1)) => g_soft_At_1 N n x.1 x.2.1 x.2.2.1 x.2.2.2.1 x.2.2.2.2.1 x.2.2.2.2.2.1) (fun _ => rfl) (fun n x => by kernel_rfl)
noncomputable abbrev b_soft_At_0 : Code := (loopsOf b_soft_At).getD 0 .skip
theorem g_soft_At_0_ok (S : Nat → Addr) (N : Nat) : ∀ n x y, (fun (x : Val (slotsTy h_soft_At_0)) => g_soft_At_0 N n x.1 x.2.1 x.2.2.1 x.2.2.2.1 x.2.2.2.2.1 x.2.2.2.2.2.1) x = some y → LoopCon Go.Proofs.Tryd.prog E S b_soft_At_0 (encSlots h_soft_At_0 x) (encEx e_soft_At_0 y).1 (encEx e_soft_At_0 y).2 :=
  loop_spec E_ok mixed (cs_soft_At_ok S N) (all := loopsOf b_soft_At) (ls := []) (.nil) (i := 0) (by kernel_rfl) (inner_of (by kernel_rfl)) (head := h_soft_At_0) (ex := e_soft_At_0) (fun n (x : Val (slotsTy h_soft_At_0)) => g_soft_At_0 N n x.1 x.2.1 x.2.2.1 x.2.2.2.1 x.2.2.2.2.1 x.2.2.2.2.2.1) (fun _ => rfl) (fun n x => by kernel_rfl)
theorem F_soft_At_ok (S : Nat → Addr) (N : Nat) : ∀ x y, (c_soft_At N).g x = some y → FCon Go.Proofs.Tryd.prog E S 41 ps_soft_At rs_soft_At x y := by
  intro x y h
  exact fun_spec E_ok mixed (cs_soft_At_ok S N) (f := 41) (fi := ⟨b_soft_At, 104, Go.Proofs.Tryd.f41.results.toList⟩) (by kernel_rfl) (ls := [l_soft_At_1 N, l_soft_At_0 N]) (.cons (by kernel_rfl) (g_soft_At_1_ok S N N) (.cons (by kernel_rfl) (g_soft_At_0_ok S N N) (.nil))) (by kernel_rfl) (ps := ps_soft_At) (rs := rs_soft_At) (Eq.trans (b := F_soft_At N x.1 x.2.1 x.2.2.1 x.2.2.2.1) (by kernel_rfl) h)

/-! lodge/soft.do -/

abbrev ps_soft_do : List Ty := [(.int .i64), (.sl (.st (.pair (.st (.pair (.sl (.int .i64)) .bool)) (.sl (.int .i64)))))]
abbrev rs_soft_do : List Slot := [.ag [.d (.sl (.int .i64)), .d .bool, .sl (.int .i64)], .data .err]
abbrev cs_soft_do (N : Nat) : List CallSpec := [c_shape_Elems N, c_soft_result N, c_soft_reads N, c_soft_At N]
noncomputable abbrev b_soft_do : Code := (Go.Proofs.Tryd.f36.body).getD .skip

abbrev h_soft_do_0 : List Slot := [.data (.int .i64), .data (.sl (.st (.pair (.st (.pair (.sl (.int .i64)) .bool)) (.sl (.int .i64))))), .dead, .dead, .box [.sl (.int .i64), .d .bool, .sl (.int .i64)], .dead, .dead, .data (.sl (.st (.pair (.sl (.int .i64)) .bool))), .dead, .box [.d (.sl (.int .i64)), .d .bool, .sl (.int .i64)], .dead, .dead, .dead, .dead, .dead, .dead, .dead, .dead, .dead, .dead, .dead, .dead, .dead, .dead, .dead, .dead, .data (.int .i64), .data (.int .i64), .dead, .dead, .dead, .dead, .dead, .dead, .dead, .dead, .dead, .dead, .dead, .dead, .dead, .dead, .dead]
abbrev e_soft_do_0 : List (AX × List Slot) := [(AX.exit 0, [.dead, .dead, .dead, .dead, .box [.sl (.int .i64), .d .bool, .sl (.int .i64)], .dead, .dead, .dead, .dead, .box [.d (.sl (.int .i64)), .d .bool, .sl (.int .i64)], .dead, .dead, .dead, .dead, .dead, .dead, .dead, .dead, .dead, .dead, .dead, .dead, .dead, .dead, .dead, .dead, .dead, .dead, .dead, .dead, .dead, .dead, .dead, .dead, .dead, .dead, .dead, .dead, .dead, .dead, .dead, .dead, .dead])]
def g_soft_do_0 (N : Nat) : Nat → Int → List (((List Int × Bool) × List Int)) → (List Int × (Bool × (List Int × Unit))) → List ((List Int × Bool)) → (List Int × (Bool × (List Int × Unit))) → Int → Int → Option ((List Int × (Bool × (List Int × Unit))) × ((List Int × (Bool × (List Int × Unit))) × Unit))
  | 0, _, _, _, _, _, _, _ => none
  | n + 1, op_0, ins_1, t_4, descs_7, out_9, t_26, t_27 =>
    cond (decide (t_27 < t_26))
      (
      Option.bind (F_soft_reads N ins_1) fun y4 =>
      cond (decide (((0 : Nat) + (List.length (y4).1)) ≤ (List.length (y4).1)))
        (
        Option.bind (F_soft_At N op_0 t_27 descs_7 (List.take (List.length (y4).1) (y4).1)) fun y5 =>
        cond (decide (((0 : Nat) + (List.length (((out_9).2).2).1)) = (List.length (((out_9).2).2).1)))
          (
          cond (decide ((((List.length (((out_9).2).2).1) + 1) * (8 + (1 : Nat))) ≤ Go.Eng.most))
            (
            cond (decide ((List.length (t_4).1) = (List.length (t_4).1)))
              (
              cond (decide ((List.length (((t_4).2).2).1) = (List.length (((t_4).2).2).1)))
                (
                cond (decide (((List.length (((out_9).2).2).1) + 1) = (List.length ((List.take (List.length (((out_9).2).2).1) (((out_9).2).2).1) ++ ((y5).1 :: ([] : List Int))))))
                  (
                  (g_soft_do_0 N n op_0 ins_1 t_4 descs_7 ((out_9).1, (((out_9).2).1, (((List.take (List.length (((out_9).2).2).1) (((out_9).2).2).1) ++ ((y5).1 :: ([] : List Int))), ()))) t_26 (wi64 (t_27 + (1 : Int)))))
                  (
                  none))
                (
                none))
              (
              none))
            (
            none))
          (
          none))
        (
        none))
      (
      cond (decide ((List.length (t_4).1) = (List.length (t_4).1)))
        (
        cond (decide ((List.length (((t_4).2).2).1) = (List.length (((t_4).2).2).1)))
          (
          cond (decide ((List.length (((out_9).2).2).1) = (List.length (((out_9).2).2).1)))
            (
            some (t_4, (out_9, ())))
            (
            none))
          (
          none))
        (
        none))

def F_soft_do (N : Nat) (op_0 : Int) (ins_1 : List (((List Int × Bool) × List Int))) : Option ((List Int × (Bool × (List Int × Unit))) × (Er × Unit)) :=
  Option.bind (F_soft_result N op_0 ins_1) fun y0 =>
  cond (Bool.not (Go.Eng.Er.isNil (((y0).2).2).1))
    (
    some ((([] : List Int), (false, (([] : List Int), ()))), ((y0).2).2))
    (
    Option.bind (F_shape_Elems N ((y0).1).1) fun y1 =>
    Option.bind (g_soft_do_0 N N op_0 ins_1 (([] : List Int), (false, (([] : List Int), ()))) ((y0).2).1 (((y0).1).1, (((y0).1).2, (([] : List Int), ()))) (y1).1 (0 : Int)) fun y2 =>
    cond (decide ((List.length (((((y2).2).1).2).2).1) = (List.length (((((y2).2).1).2).2).1)))
      (
      some (((y2).2).1, (Go.Eng.Er.nil, ())))
      (
      none))

abbrev c_soft_do (N : Nat) : CallSpec := ⟨36, ps_soft_do, rs_soft_do, fun x => F_soft_do N x.1 x.2.1⟩
abbrev l_soft_do_0 (N : Nat) : LoopSpec := ⟨0, h_soft_do_0, e_soft_do_0, fun x => g_soft_do_0 N N x.1 x.2.1 x.2.2.1 x.2.2.2.1 x.2.2.2.2.1 x.2.2.2.2.2.1 x.2.2.2.2.2.2.1⟩

theorem cs_soft_do_ok (S : Nat → Addr) (N : Nat) : CallsOK Go.Proofs.Tryd.prog E S (cs_soft_do N) :=
  .cons (F_shape_Elems_ok S N) (.cons (F_soft_result_ok S N) (.cons (F_soft_reads_ok S N) (.cons (F_soft_At_ok S N) (.nil))))
noncomputable abbrev b_soft_do_0 : Code := (loopsOf b_soft_do).getD 0 .skip
theorem g_soft_do_0_ok (S : Nat → Addr) (N : Nat) : ∀ n x y, (fun (x : Val (slotsTy h_soft_do_0)) => g_soft_do_0 N n x.1 x.2.1 x.2.2.1 x.2.2.2.1 x.2.2.2.2.1 x.2.2.2.2.2.1 x.2.2.2.2.2.2.1) x = some y → LoopCon Go.Proofs.Tryd.prog E S b_soft_do_0 (encSlots h_soft_do_0 x) (encEx e_soft_do_0 y).1 (encEx e_soft_do_0 y).2 :=
  loop_spec E_ok mixed (cs_soft_do_ok S N) (all := loopsOf b_soft_do) (ls := []) (.nil) (i := 0) (by kernel_rfl) (inner_of (by kernel_rfl)) (head := h_soft_do_0) (ex := e_soft_do_0) (fun n (x : Val (slotsTy h_soft_do_0)) => g_soft_do_0 N n x.1 x.2.1 x.2.2.1 x.2.2.2.1 x.2.2.2.2.1 x.2.2.2.2.2.1 x.2.2.2.2.2.2.1) (fun _ => rfl) (fun n x => by kernel_rfl)
theorem F_soft_do_ok (S : Nat → Addr) (N : Nat) : ∀ x y, (c_soft_do N).g x = some y → FCon Go.Proofs.Tryd.prog E S 36 ps_soft_do rs_soft_do x y := by
  intro x y h
  exact fun_spec E_ok mixed (cs_soft_do_ok S N) (f := 36) (fi := ⟨b_soft_do, 43, Go.Proofs.Tryd.f36.results.toList⟩) (by kernel_rfl) (ls := [l_soft_do_0 N]) (.cons (by kernel_rfl) (g_soft_do_0_ok S N N) (.nil)) (by kernel_rfl) (ps := ps_soft_do) (rs := rs_soft_do) (Eq.trans (b := F_soft_do N x.1 x.2.1) (by kernel_rfl) h)

/-! lodge/soft.Softmax -/

abbrev ps_soft_Softmax : List Ty := [(.st (.pair (.st (.pair (.sl (.int .i64)) .bool)) (.sl (.int .i64)))), (.st (.pair (.st (.pair (.sl (.int .i64)) .bool)) (.sl (.int .i64))))]
abbrev rs_soft_Softmax : List Slot := [.ag [.d (.sl (.int .i64)), .d .bool, .sl (.int .i64)], .data .err]
abbrev cs_soft_Softmax (N : Nat) : List CallSpec := [c_soft_do N]
noncomputable abbrev b_soft_Softmax : Code := (Go.Proofs.Tryd.f15.body).getD .skip

def F_soft_Softmax (N : Nat) (a_0 : ((List Int × Bool) × List Int)) (table_1 : ((List Int × Bool) × List Int)) : Option ((List Int × (Bool × (List Int × Unit))) × (Er × Unit)) :=
  Option.bind (F_soft_do N (16 : Int) (a_0 :: (table_1 :: ([] : List (((List Int) × Bool) × (List Int)))))) fun y0 =>
  cond (decide ((List.length ((((y0).1).2).2).1) = (List.length ((((y0).1).2).2).1)))
    (
    some y0)
    (
    none)

abbrev c_soft_Softmax (N : Nat) : CallSpec := ⟨15, ps_soft_Softmax, rs_soft_Softmax, fun x => F_soft_Softmax N x.1 x.2.1⟩

theorem cs_soft_Softmax_ok (S : Nat → Addr) (N : Nat) : CallsOK Go.Proofs.Tryd.prog E S (cs_soft_Softmax N) :=
  .cons (F_soft_do_ok S N) (.nil)
theorem F_soft_Softmax_ok (S : Nat → Addr) (N : Nat) : ∀ x y, (c_soft_Softmax N).g x = some y → FCon Go.Proofs.Tryd.prog E S 15 ps_soft_Softmax rs_soft_Softmax x y := by
  intro x y h
  exact fun_spec E_ok mixed (cs_soft_Softmax_ok S N) (f := 15) (fi := ⟨b_soft_Softmax, 12, Go.Proofs.Tryd.f15.results.toList⟩) (by kernel_rfl) (ls := []) (.nil) (by kernel_rfl) (ps := ps_soft_Softmax) (rs := rs_soft_Softmax) (Eq.trans (b := F_soft_Softmax N x.1 x.2.1) (by kernel_rfl) h)

/-! lodge/lodgeref.SameInts -/

abbrev ps_lodgeref_SameInts : List Ty := [(.sl (.int .i64)), (.sl (.int .i64))]
abbrev rs_lodgeref_SameInts : List Slot := [.data .bool]
abbrev cs_lodgeref_SameInts (N : Nat) : List CallSpec := []
noncomputable abbrev b_lodgeref_SameInts : Code := (Go.Proofs.Tryd.f29.body).getD .skip

abbrev h_lodgeref_SameInts_0 : List Slot := [.data (.sl (.int .i64)), .data (.sl (.int .i64)), .dead, .dead, .dead, .data (.int .i64), .dead, .dead, .dead, .dead, .dead, .dead, .dead, .dead, .dead, .dead, .dead, .dead, .dead, .dead, .dead, .dead, .dead, .dead, .dead, .dead, .dead, .dead, .dead]
abbrev e_lodgeref_SameInts_0 : List (AX × List Slot) := [(AX.exit 0, [.dead, .dead, .dead, .dead, .dead, .dead, .dead, .dead, .dead, .dead, .dead, .dead, .dead, .dead, .dead, .dead, .dead, .dead, .dead, .dead, .dead, .dead, .dead, .dead, .dead, .dead, .dead, .dead, .dead]), (AX.ret, [.dead, .dead, .dead, .dead, .data .bool, .dead, .dead, .dead, .dead, .dead, .dead, .dead, .dead, .dead, .dead, .dead, .dead, .dead, .dead, .dead, .dead, .dead, .dead, .dead, .dead, .dead, .dead, .dead, .dead])]
def g_lodgeref_SameInts_0 (N : Nat) : Nat → List Int → List Int → Int → Option (Sum Unit (Bool × Unit))
  | 0, _, _, _ => none
  | n + 1, a_0, b_1, i_5 =>
    cond (decide (i_5 < (Nat.cast (List.length a_0) : Int)))
      (
      cond (decide ((0 : Int) ≤ i_5))
        (
        cond (decide ((Int.toNat i_5) < (List.length a_0)))
          (
          cond (decide ((0 : Int) ≤ i_5))
            (
            cond (decide ((Int.toNat i_5) < (List.length b_1)))
              (
              cond (Bool.not (decide ((List.getD a_0 (Int.toNat i_5) (0 : Int)) = (List.getD b_1 (Int.toNat i_5) (0 : Int)))))
                (
                some (Sum.inr (false, ())))
                (
                (g_lodgeref_SameInts_0 N n a_0 b_1 (wi64 (i_5 + (1 : Int))))))
              (
              none))
            (
            none))
          (
          none))
        (
        none))
      (
      some (Sum.inl ()))

def F_lodgeref_SameInts (N : Nat) (a_0 : List Int) (b_1 : List Int) : Option (Bool × Unit) :=
  cond (decide (@Ne Int (Nat.cast (List.length a_0) : Int) (Nat.cast (List.length b_1) : Int)))
    (
    some (false, ()))
    (
    Option.bind (g_lodgeref_SameInts_0 N N a_0 b_1 (0 : Int)) fun y0 =>
    Sum.elim (fun y1 =>
      some (true, ()))
      (fun y2 =>
      some y2) y0)

abbrev c_lodgeref_SameInts (N : Nat) : CallSpec := ⟨29, ps_lodgeref_SameInts, rs_lodgeref_SameInts, fun x => F_lodgeref_SameInts N x.1 x.2.1⟩
abbrev l_lodgeref_SameInts_0 (N : Nat) : LoopSpec := ⟨0, h_lodgeref_SameInts_0, e_lodgeref_SameInts_0, fun x => g_lodgeref_SameInts_0 N N x.1 x.2.1 x.2.2.1⟩

theorem cs_lodgeref_SameInts_ok (S : Nat → Addr) (N : Nat) : CallsOK Go.Proofs.Tryd.prog E S (cs_lodgeref_SameInts N) :=
  .nil
noncomputable abbrev b_lodgeref_SameInts_0 : Code := (loopsOf b_lodgeref_SameInts).getD 0 .skip
theorem g_lodgeref_SameInts_0_ok (S : Nat → Addr) (N : Nat) : ∀ n x y, (fun (x : Val (slotsTy h_lodgeref_SameInts_0)) => g_lodgeref_SameInts_0 N n x.1 x.2.1 x.2.2.1) x = some y → LoopCon Go.Proofs.Tryd.prog E S b_lodgeref_SameInts_0 (encSlots h_lodgeref_SameInts_0 x) (encEx e_lodgeref_SameInts_0 y).1 (encEx e_lodgeref_SameInts_0 y).2 :=
  loop_spec E_ok mixed (cs_lodgeref_SameInts_ok S N) (all := loopsOf b_lodgeref_SameInts) (ls := []) (.nil) (i := 0) (by kernel_rfl) (inner_of (by kernel_rfl)) (head := h_lodgeref_SameInts_0) (ex := e_lodgeref_SameInts_0) (fun n (x : Val (slotsTy h_lodgeref_SameInts_0)) => g_lodgeref_SameInts_0 N n x.1 x.2.1 x.2.2.1) (fun _ => rfl) (fun n x => by kernel_rfl)
theorem F_lodgeref_SameInts_ok (S : Nat → Addr) (N : Nat) : ∀ x y, (c_lodgeref_SameInts N).g x = some y → FCon Go.Proofs.Tryd.prog E S 29 ps_lodgeref_SameInts rs_lodgeref_SameInts x y := by
  intro x y h
  exact fun_spec E_ok mixed (cs_lodgeref_SameInts_ok S N) (f := 29) (fi := ⟨b_lodgeref_SameInts, 29, Go.Proofs.Tryd.f29.results.toList⟩) (by kernel_rfl) (ls := [l_lodgeref_SameInts_0 N]) (.cons (by kernel_rfl) (g_lodgeref_SameInts_0_ok S N N) (.nil)) (by kernel_rfl) (ps := ps_lodgeref_SameInts) (rs := rs_lodgeref_SameInts) (Eq.trans (b := F_lodgeref_SameInts N x.1 x.2.1) (by kernel_rfl) h)

/-! lodge/lodgelaw11.first -/

abbrev ps_lodgelaw11_first : List Ty := []
abbrev rs_lodgelaw11_first : List Slot := [.data .bool]
abbrev cs_lodgelaw11_first (N : Nat) : List CallSpec := [c_soft_Table N, c_soft_Softmax N, c_lodgeref_SameInts N]
noncomputable abbrev b_lodgelaw11_first : Code := (Go.Proofs.Tryd.f9.body).getD .skip

def F_lodgelaw11_first (N : Nat)  : Option (Bool × Unit) :=
  Option.bind (F_soft_Table N (4602678819172646912 : Nat)) fun y0 =>
  cond (decide (((0 : Nat) + (List.length ((y0).1).1)) ≤ (List.length ((y0).1).1)))
    (
    cond (decide (((0 : Nat) + (List.length ((((y0).1).2).2).1)) ≤ (List.length ((((y0).1).2).2).1)))
      (
      Option.bind (F_soft_Softmax N ((((2 : Int) :: ([] : List Int)), false), ((0 : Int) :: ((0 : Int) :: ([] : List Int)))) (((List.take (List.length ((y0).1).1) ((y0).1).1), (((y0).1).2).1), (List.take (List.length ((((y0).1).2).2).1) ((((y0).1).2).2).1))) fun y1 =>
      cond (Go.Eng.Er.isNil ((y0).2).1)
        (
        cond (Go.Eng.Er.isNil ((y1).2).1)
          (
          cond (decide (((0 : Nat) + (List.length ((((y1).1).2).2).1)) ≤ (List.length ((((y1).1).2).2).1)))
            (
            Option.bind (F_lodgeref_SameInts N (List.take (List.length ((((y1).1).2).2).1) ((((y1).1).2).2).1) ((0 : Int) :: ((0 : Int) :: ([] : List Int)))) fun y2 =>
            some y2)
            (
            none))
          (
          some (false, ())))
        (
        some (false, ())))
      (
      none))
    (
    none)

abbrev c_lodgelaw11_first (N : Nat) : CallSpec := ⟨9, ps_lodgelaw11_first, rs_lodgelaw11_first, fun x => F_lodgelaw11_first N ⟩

theorem cs_lodgelaw11_first_ok (S : Nat → Addr) (N : Nat) : CallsOK Go.Proofs.Tryd.prog E S (cs_lodgelaw11_first N) :=
  .cons (F_soft_Table_ok S N) (.cons (F_soft_Softmax_ok S N) (.cons (F_lodgeref_SameInts_ok S N) (.nil)))
theorem F_lodgelaw11_first_ok (S : Nat → Addr) (N : Nat) : ∀ x y, (c_lodgelaw11_first N).g x = some y → FCon Go.Proofs.Tryd.prog E S 9 ps_lodgelaw11_first rs_lodgelaw11_first x y := by
  intro x y h
  exact fun_spec E_ok mixed (cs_lodgelaw11_first_ok S N) (f := 9) (fi := ⟨b_lodgelaw11_first, 32, Go.Proofs.Tryd.f9.results.toList⟩) (by kernel_rfl) (ls := []) (.nil) (by kernel_rfl) (ps := ps_lodgelaw11_first) (rs := rs_lodgelaw11_first) (Eq.trans (b := F_lodgelaw11_first N ) (by kernel_rfl) h)

/-! lodge/lodgeworld.Desc -/

abbrev ps_lodgeworld_Desc : List Ty := [(.st (.pair (.sl (.int .i64)) .bool))]
abbrev rs_lodgeworld_Desc : List Slot := [.data .bool]
abbrev cs_lodgeworld_Desc (N : Nat) : List CallSpec := []
noncomputable abbrev b_lodgeworld_Desc : Code := (Go.Proofs.Tryd.f43.body).getD .skip

def F_lodgeworld_Desc (N : Nat) (d_0 : (List Int × Bool)) : Option (Bool × Unit) :=
  some ((decide ((Nat.cast (List.length (d_0).1) : Int) ≤ (8 : Int))), ())

abbrev c_lodgeworld_Desc (N : Nat) : CallSpec := ⟨43, ps_lodgeworld_Desc, rs_lodgeworld_Desc, fun x => F_lodgeworld_Desc N x.1⟩

theorem cs_lodgeworld_Desc_ok (S : Nat → Addr) (N : Nat) : CallsOK Go.Proofs.Tryd.prog E S (cs_lodgeworld_Desc N) :=
  .nil
theorem F_lodgeworld_Desc_ok (S : Nat → Addr) (N : Nat) : ∀ x y, (c_lodgeworld_Desc N).g x = some y → FCon Go.Proofs.Tryd.prog E S 43 ps_lodgeworld_Desc rs_lodgeworld_Desc x y := by
  intro x y h
  exact fun_spec E_ok mixed (cs_lodgeworld_Desc_ok S N) (f := 43) (fi := ⟨b_lodgeworld_Desc, 7, Go.Proofs.Tryd.f43.results.toList⟩) (by kernel_rfl) (ls := []) (.nil) (by kernel_rfl) (ps := ps_lodgeworld_Desc) (rs := rs_lodgeworld_Desc) (Eq.trans (b := F_lodgeworld_Desc N x.1) (by kernel_rfl) h)

/-! lodge/lodgeworld.Tensor -/

abbrev ps_lodgeworld_Tensor : List Ty := [(.st (.pair (.st (.pair (.sl (.int .i64)) .bool)) (.sl (.int .i64)))), (.int .i64)]
abbrev rs_lodgeworld_Tensor : List Slot := [.data .bool]
abbrev cs_lodgeworld_Tensor (N : Nat) : List CallSpec := [c_lodgeworld_Desc N]
noncomputable abbrev b_lodgeworld_Tensor : Code := (Go.Proofs.Tryd.f20.body).getD .skip

def F_lodgeworld_Tensor (N : Nat) (t_0 : ((List Int × Bool) × List Int)) (most_1 : Int) : Option (Bool × Unit) :=
  Option.bind (F_lodgeworld_Desc N (t_0).1) fun y0 =>
  cond (y0).1
    (
    some ((decide ((Nat.cast (List.length (t_0).2) : Int) ≤ most_1)), ()))
    (
    some (false, ()))

abbrev c_lodgeworld_Tensor (N : Nat) : CallSpec := ⟨20, ps_lodgeworld_Tensor, rs_lodgeworld_Tensor, fun x => F_lodgeworld_Tensor N x.1 x.2.1⟩

theorem cs_lodgeworld_Tensor_ok (S : Nat → Addr) (N : Nat) : CallsOK Go.Proofs.Tryd.prog E S (cs_lodgeworld_Tensor N) :=
  .cons (F_lodgeworld_Desc_ok S N) (.nil)
theorem F_lodgeworld_Tensor_ok (S : Nat → Addr) (N : Nat) : ∀ x y, (c_lodgeworld_Tensor N).g x = some y → FCon Go.Proofs.Tryd.prog E S 20 ps_lodgeworld_Tensor rs_lodgeworld_Tensor x y := by
  intro x y h
  exact fun_spec E_ok mixed (cs_lodgeworld_Tensor_ok S N) (f := 20) (fi := ⟨b_lodgeworld_Tensor, 15, Go.Proofs.Tryd.f20.results.toList⟩) (by kernel_rfl) (ls := []) (.nil) (by kernel_rfl) (ps := ps_lodgeworld_Tensor) (rs := rs_lodgeworld_Tensor) (Eq.trans (b := F_lodgeworld_Tensor N x.1 x.2.1) (by kernel_rfl) h)

/-! lodge/soft.Gather -/

abbrev ps_soft_Gather : List Ty := [(.st (.pair (.st (.pair (.sl (.int .i64)) .bool)) (.sl (.int .i64)))), (.st (.pair (.st (.pair (.sl (.int .i64)) .bool)) (.sl (.int .i64))))]
abbrev rs_soft_Gather : List Slot := [.ag [.d (.sl (.int .i64)), .d .bool, .sl (.int .i64)], .data .err]
abbrev cs_soft_Gather (N : Nat) : List CallSpec := [c_soft_do N]
noncomputable abbrev b_soft_Gather : Code := (Go.Proofs.Tryd.f18.body).getD .skip

def F_soft_Gather (N : Nat) (a_0 : ((List Int × Bool) × List Int)) (at_1 : ((List Int × Bool) × List Int)) : Option ((List Int × (Bool × (List Int × Unit))) × (Er × Unit)) :=
  Option.bind (F_soft_do N (17 : Int) (a_0 :: (at_1 :: ([] : List (((List Int) × Bool) × (List Int)))))) fun y0 =>
  cond (decide ((List.length ((((y0).1).2).2).1) = (List.length ((((y0).1).2).2).1)))
    (
    some y0)
    (
    none)

abbrev c_soft_Gather (N : Nat) : CallSpec := ⟨18, ps_soft_Gather, rs_soft_Gather, fun x => F_soft_Gather N x.1 x.2.1⟩

theorem cs_soft_Gather_ok (S : Nat → Addr) (N : Nat) : CallsOK Go.Proofs.Tryd.prog E S (cs_soft_Gather N) :=
  .cons (F_soft_do_ok S N) (.nil)
theorem F_soft_Gather_ok (S : Nat → Addr) (N : Nat) : ∀ x y, (c_soft_Gather N).g x = some y → FCon Go.Proofs.Tryd.prog E S 18 ps_soft_Gather rs_soft_Gather x y := by
  intro x y h
  exact fun_spec E_ok mixed (cs_soft_Gather_ok S N) (f := 18) (fi := ⟨b_soft_Gather, 12, Go.Proofs.Tryd.f18.results.toList⟩) (by kernel_rfl) (ls := []) (.nil) (by kernel_rfl) (ps := ps_soft_Gather) (rs := rs_soft_Gather) (Eq.trans (b := F_soft_Gather N x.1 x.2.1) (by kernel_rfl) h)

/-! lodge/soft.ArgMax -/

abbrev ps_soft_ArgMax : List Ty := [(.st (.pair (.st (.pair (.sl (.int .i64)) .bool)) (.sl (.int .i64))))]
abbrev rs_soft_ArgMax : List Slot := [.ag [.d (.sl (.int .i64)), .d .bool, .sl (.int .i64)], .data .err]
abbrev cs_soft_ArgMax (N : Nat) : List CallSpec := [c_soft_do N]
noncomputable abbrev b_soft_ArgMax : Code := (Go.Proofs.Tryd.f17.body).getD .skip

def F_soft_ArgMax (N : Nat) (a_0 : ((List Int × Bool) × List Int)) : Option ((List Int × (Bool × (List Int × Unit))) × (Er × Unit)) :=
  Option.bind (F_soft_do N (19 : Int) (a_0 :: ([] : List (((List Int) × Bool) × (List Int))))) fun y0 =>
  cond (decide ((List.length ((((y0).1).2).2).1) = (List.length ((((y0).1).2).2).1)))
    (
    some y0)
    (
    none)

abbrev c_soft_ArgMax (N : Nat) : CallSpec := ⟨17, ps_soft_ArgMax, rs_soft_ArgMax, fun x => F_soft_ArgMax N x.1⟩

theorem cs_soft_ArgMax_ok (S : Nat → Addr) (N : Nat) : CallsOK Go.Proofs.Tryd.prog E S (cs_soft_ArgMax N) :=
  .cons (F_soft_do_ok S N) (.nil)
theorem F_soft_ArgMax_ok (S : Nat → Addr) (N : Nat) : ∀ x y, (c_soft_ArgMax N).g x = some y → FCon Go.Proofs.Tryd.prog E S 17 ps_soft_ArgMax rs_soft_ArgMax x y := by
  intro x y h
  exact fun_spec E_ok mixed (cs_soft_ArgMax_ok S N) (f := 17) (fi := ⟨b_soft_ArgMax, 9, Go.Proofs.Tryd.f17.results.toList⟩) (by kernel_rfl) (ls := []) (.nil) (by kernel_rfl) (ps := ps_soft_ArgMax) (rs := rs_soft_ArgMax) (Eq.trans (b := F_soft_ArgMax N x.1) (by kernel_rfl) h)

/-! lodge/soft.Sum -/

abbrev ps_soft_Sum : List Ty := [(.st (.pair (.st (.pair (.sl (.int .i64)) .bool)) (.sl (.int .i64))))]
abbrev rs_soft_Sum : List Slot := [.ag [.d (.sl (.int .i64)), .d .bool, .sl (.int .i64)], .data .err]
abbrev cs_soft_Sum (N : Nat) : List CallSpec := [c_soft_do N]
noncomputable abbrev b_soft_Sum : Code := (Go.Proofs.Tryd.f21.body).getD .skip

def F_soft_Sum (N : Nat) (a_0 : ((List Int × Bool) × List Int)) : Option ((List Int × (Bool × (List Int × Unit))) × (Er × Unit)) :=
  Option.bind (F_soft_do N (20 : Int) (a_0 :: ([] : List (((List Int) × Bool) × (List Int))))) fun y0 =>
  cond (decide ((List.length ((((y0).1).2).2).1) = (List.length ((((y0).1).2).2).1)))
    (
    some y0)
    (
    none)

abbrev c_soft_Sum (N : Nat) : CallSpec := ⟨21, ps_soft_Sum, rs_soft_Sum, fun x => F_soft_Sum N x.1⟩

theorem cs_soft_Sum_ok (S : Nat → Addr) (N : Nat) : CallsOK Go.Proofs.Tryd.prog E S (cs_soft_Sum N) :=
  .cons (F_soft_do_ok S N) (.nil)
theorem F_soft_Sum_ok (S : Nat → Addr) (N : Nat) : ∀ x y, (c_soft_Sum N).g x = some y → FCon Go.Proofs.Tryd.prog E S 21 ps_soft_Sum rs_soft_Sum x y := by
  intro x y h
  exact fun_spec E_ok mixed (cs_soft_Sum_ok S N) (f := 21) (fi := ⟨b_soft_Sum, 9, Go.Proofs.Tryd.f21.results.toList⟩) (by kernel_rfl) (ls := []) (.nil) (by kernel_rfl) (ps := ps_soft_Sum) (rs := rs_soft_Sum) (Eq.trans (b := F_soft_Sum N x.1) (by kernel_rfl) h)

/-! lodge/lodgeref3.ValidDesc -/

abbrev ps_lodgeref3_ValidDesc : List Ty := [(.st (.pair (.sl (.int .i64)) .bool))]
abbrev rs_lodgeref3_ValidDesc : List Slot := [.data (.int .i64)]
abbrev cs_lodgeref3_ValidDesc (N : Nat) : List CallSpec := []
noncomputable abbrev b_lodgeref3_ValidDesc : Code := (Go.Proofs.Tryd.f73.body).getD .skip

abbrev h_lodgeref3_ValidDesc_0 : List Slot := [.dead, .box [.d (.st (.pair (.sl (.int .i64)) .bool))], .dead, .data (.int .i64), .data (.int .i64), .dead, .dead, .dead, .dead, .dead, .dead, .dead, .dead, .dead, .dead, .dead, .dead, .dead, .dead, .dead, .dead, .dead, .dead, .dead, .dead, .dead, .dead, .dead, .dead, .dead, .dead, .dead, .dead, .dead, .dead, .dead, .dead, .dead, .dead]
abbrev e_lodgeref3_ValidDesc_0 : List (AX × List Slot) := [(AX.exit 0, [.dead, .dead, .dead, .data (.int .i64), .dead, .dead, .dead, .dead, .dead, .dead, .dead, .dead, .dead, .dead, .dead, .dead, .dead, .dead, .dead, .dead, .dead, .dead, .dead, .dead, .dead, .dead, .dead, .dead, .dead, .dead, .dead, .dead, .dead, .dead, .dead, .dead, .dead, .dead, .dead]), (AX.ret, [.dead, .dead, .data (.int .i64), .dead, .dead, .dead, .dead, .dead, .dead, .dead, .dead, .dead, .dead, .dead, .dead, .dead, .dead, .dead, .dead, .dead, .dead, .dead, .dead, .dead, .dead, .dead, .dead, .dead, .dead, .dead, .dead, .dead, .dead, .dead, .dead, .dead, .dead, .dead, .dead])]
def g_lodgeref3_ValidDesc_0 (N : Nat) : Nat → ((List Int × Bool) × Unit) → Int → Int → Option (Sum (Int × Unit) (Int × Unit))
  | 0, _, _, _ => none
  | n + 1, d_1, n_3, i_4 =>
    cond (decide (i_4 < (Nat.cast (List.length ((d_1).1).1) : Int)))
      (
      cond (decide ((0 : Int) ≤ i_4))
        (
        cond (decide ((Int.toNat i_4) < (List.length ((d_1).1).1)))
          (
          cond (decide ((List.getD ((d_1).1).1 (Int.toNat i_4) (0 : Int)) < (1 : Int)))
            (
            some (Sum.inr ((102 : Int), ())))
            (
            cond (decide ((0 : Int) ≤ i_4))
              (
              cond (decide ((Int.toNat i_4) < (List.length ((d_1).1).1)))
                (
                cond (decide ((256 : Int) < (List.getD ((d_1).1).1 (Int.toNat i_4) (0 : Int))))
                  (
                  some (Sum.inr ((102 : Int), ())))
                  (
                  cond (decide ((0 : Int) ≤ i_4))
                    (
                    cond (decide ((Int.toNat i_4) < (List.length ((d_1).1).1)))
                      (
                      (g_lodgeref3_ValidDesc_0 N n d_1 (wi64 (n_3 * (List.getD ((d_1).1).1 (Int.toNat i_4) (0 : Int)))) (wi64 (i_4 + (1 : Int)))))
                      (
                      none))
                    (
                    none)))
                (
                none))
              (
              none)))
          (
          none))
        (
        none))
      (
      some (Sum.inl (n_3, ())))

def F_lodgeref3_ValidDesc (N : Nat) (d_0 : (List Int × Bool)) : Option (Int × Unit) :=
  cond (decide ((4 : Int) < (Nat.cast (List.length (d_0).1) : Int)))
    (
    some ((104 : Int), ()))
    (
    Option.bind (g_lodgeref3_ValidDesc_0 N N (d_0, ()) (1 : Int) (0 : Int)) fun y0 =>
    Sum.elim (fun y1 =>
      cond (decide ((16384 : Int) < (y1).1))
        (
        some ((104 : Int), ()))
        (
        some ((0 : Int), ())))
      (fun y2 =>
      some y2) y0)

abbrev c_lodgeref3_ValidDesc (N : Nat) : CallSpec := ⟨73, ps_lodgeref3_ValidDesc, rs_lodgeref3_ValidDesc, fun x => F_lodgeref3_ValidDesc N x.1⟩
abbrev l_lodgeref3_ValidDesc_0 (N : Nat) : LoopSpec := ⟨0, h_lodgeref3_ValidDesc_0, e_lodgeref3_ValidDesc_0, fun x => g_lodgeref3_ValidDesc_0 N N x.1 x.2.1 x.2.2.1⟩

theorem cs_lodgeref3_ValidDesc_ok (S : Nat → Addr) (N : Nat) : CallsOK Go.Proofs.Tryd.prog E S (cs_lodgeref3_ValidDesc N) :=
  .nil
noncomputable abbrev b_lodgeref3_ValidDesc_0 : Code := (loopsOf b_lodgeref3_ValidDesc).getD 0 .skip
theorem g_lodgeref3_ValidDesc_0_ok (S : Nat → Addr) (N : Nat) : ∀ n x y, (fun (x : Val (slotsTy h_lodgeref3_ValidDesc_0)) => g_lodgeref3_ValidDesc_0 N n x.1 x.2.1 x.2.2.1) x = some y → LoopCon Go.Proofs.Tryd.prog E S b_lodgeref3_ValidDesc_0 (encSlots h_lodgeref3_ValidDesc_0 x) (encEx e_lodgeref3_ValidDesc_0 y).1 (encEx e_lodgeref3_ValidDesc_0 y).2 :=
  loop_spec E_ok mixed (cs_lodgeref3_ValidDesc_ok S N) (all := loopsOf b_lodgeref3_ValidDesc) (ls := []) (.nil) (i := 0) (by kernel_rfl) (inner_of (by kernel_rfl)) (head := h_lodgeref3_ValidDesc_0) (ex := e_lodgeref3_ValidDesc_0) (fun n (x : Val (slotsTy h_lodgeref3_ValidDesc_0)) => g_lodgeref3_ValidDesc_0 N n x.1 x.2.1 x.2.2.1) (fun _ => rfl) (fun n x => by kernel_rfl)
theorem F_lodgeref3_ValidDesc_ok (S : Nat → Addr) (N : Nat) : ∀ x y, (c_lodgeref3_ValidDesc N).g x = some y → FCon Go.Proofs.Tryd.prog E S 73 ps_lodgeref3_ValidDesc rs_lodgeref3_ValidDesc x y := by
  intro x y h
  exact fun_spec E_ok mixed (cs_lodgeref3_ValidDesc_ok S N) (f := 73) (fi := ⟨b_lodgeref3_ValidDesc, 39, Go.Proofs.Tryd.f73.results.toList⟩) (by kernel_rfl) (ls := [l_lodgeref3_ValidDesc_0 N]) (.cons (by kernel_rfl) (g_lodgeref3_ValidDesc_0_ok S N N) (.nil)) (by kernel_rfl) (ps := ps_lodgeref3_ValidDesc) (rs := rs_lodgeref3_ValidDesc) (Eq.trans (b := F_lodgeref3_ValidDesc N x.1) (by kernel_rfl) h)

/-! lodge/lodgeref.Bare -/

abbrev ps_lodgeref_Bare : List Ty := [(.int .i64)]
abbrev rs_lodgeref_Bare : List Slot := [.data (.st (.pair (.int .i64) (.pair .bool (.int .i64))))]
abbrev cs_lodgeref_Bare (N : Nat) : List CallSpec := []
noncomputable abbrev b_lodgeref_Bare : Code := (Go.Proofs.Tryd.f35.body).getD .skip

def F_lodgeref_Bare (N : Nat) (code_0 : Int) : Option ((Int × (Bool × Int)) × Unit) :=
  some ((code_0, (false, (0 : Int))), ())

abbrev c_lodgeref_Bare (N : Nat) : CallSpec := ⟨35, ps_lodgeref_Bare, rs_lodgeref_Bare, fun x => F_lodgeref_Bare N x.1⟩

theorem cs_lodgeref_Bare_ok (S : Nat → Addr) (N : Nat) : CallsOK Go.Proofs.Tryd.prog E S (cs_lodgeref_Bare N) :=
  .nil
theorem F_lodgeref_Bare_ok (S : Nat → Addr) (N : Nat) : ∀ x y, (c_lodgeref_Bare N).g x = some y → FCon Go.Proofs.Tryd.prog E S 35 ps_lodgeref_Bare rs_lodgeref_Bare x y := by
  intro x y h
  exact fun_spec E_ok mixed (cs_lodgeref_Bare_ok S N) (f := 35) (fi := ⟨b_lodgeref_Bare, 5, Go.Proofs.Tryd.f35.results.toList⟩) (by kernel_rfl) (ls := []) (.nil) (by kernel_rfl) (ps := ps_lodgeref_Bare) (rs := rs_lodgeref_Bare) (Eq.trans (b := F_lodgeref_Bare N x.1) (by kernel_rfl) h)

/-! lodge/lodgeref3.Elems -/

abbrev ps_lodgeref3_Elems : List Ty := [(.sl (.int .i64))]
abbrev rs_lodgeref3_Elems : List Slot := [.data (.int .i64)]
abbrev cs_lodgeref3_Elems (N : Nat) : List CallSpec := [c_lodgeref3_ValidDesc N]
noncomputable abbrev b_lodgeref3_Elems : Code := (Go.Proofs.Tryd.f56.body).getD .skip

abbrev h_lodgeref3_Elems_0 : List Slot := [.data (.sl (.int .i64)), .dead, .dead, .data (.int .i64), .data (.int .i64), .dead, .dead, .dead, .dead, .dead, .dead, .dead, .dead, .dead, .dead, .dead, .dead, .dead, .dead, .dead, .dead, .dead]
abbrev e_lodgeref3_Elems_0 : List (AX × List Slot) := [(AX.exit 0, [.dead, .dead, .dead, .data (.int .i64), .dead, .dead, .dead, .dead, .dead, .dead, .dead, .dead, .dead, .dead, .dead, .dead, .dead, .dead, .dead, .dead, .dead, .dead])]
def g_lodgeref3_Elems_0 (N : Nat) : Nat → List Int → Int → Int → Option (Int × Unit)
  | 0, _, _, _ => none
  | n + 1, shape_0, n_3, i_4 =>
    cond (decide (i_4 < (Nat.cast (List.length shape_0) : Int)))
      (
      cond (decide ((0 : Int) ≤ i_4))
        (
        cond (decide ((Int.toNat i_4) < (List.length shape_0)))
          (
          (g_lodgeref3_Elems_0 N n shape_0 (wi64 (n_3 * (List.getD shape_0 (Int.toNat i_4) (0 : Int)))) (wi64 (i_4 + (1 : Int)))))
          (
          none))
        (
        none))
      (
      some (n_3, ()))

def F_lodgeref3_Elems (N : Nat) (shape_0 : List Int) : Option (Int × Unit) :=
  Option.bind (F_lodgeref3_ValidDesc N (shape_0, false)) fun y0 =>
  cond (decide (@Ne Int (y0).1 (0 : Int)))
    (
    some ((0 : Int), ()))
    (
    Option.bind (g_lodgeref3_Elems_0 N N shape_0 (1 : Int) (0 : Int)) fun y1 =>
    some y1)

abbrev c_lodgeref3_Elems (N : Nat) : CallSpec := ⟨56, ps_lodgeref3_Elems, rs_lodgeref3_Elems, fun x => F_lodgeref3_Elems N x.1⟩
abbrev l_lodgeref3_Elems_0 (N : Nat) : LoopSpec := ⟨0, h_lodgeref3_Elems_0, e_lodgeref3_Elems_0, fun x => g_lodgeref3_Elems_0 N N x.1 x.2.1 x.2.2.1⟩

theorem cs_lodgeref3_Elems_ok (S : Nat → Addr) (N : Nat) : CallsOK Go.Proofs.Tryd.prog E S (cs_lodgeref3_Elems N) :=
  .cons (F_lodgeref3_ValidDesc_ok S N) (.nil)
noncomputable abbrev b_lodgeref3_Elems_0 : Code := (loopsOf b_lodgeref3_Elems).getD 0 .skip
theorem g_lodgeref3_Elems_0_ok (S : Nat → Addr) (N : Nat) : ∀ n x y, (fun (x : Val (slotsTy h_lodgeref3_Elems_0)) => g_lodgeref3_Elems_0 N n x.1 x.2.1 x.2.2.1) x = some y → LoopCon Go.Proofs.Tryd.prog E S b_lodgeref3_Elems_0 (encSlots h_lodgeref3_Elems_0 x) (encEx e_lodgeref3_Elems_0 y).1 (encEx e_lodgeref3_Elems_0 y).2 :=
  loop_spec E_ok mixed (cs_lodgeref3_Elems_ok S N) (all := loopsOf b_lodgeref3_Elems) (ls := []) (.nil) (i := 0) (by kernel_rfl) (inner_of (by kernel_rfl)) (head := h_lodgeref3_Elems_0) (ex := e_lodgeref3_Elems_0) (fun n (x : Val (slotsTy h_lodgeref3_Elems_0)) => g_lodgeref3_Elems_0 N n x.1 x.2.1 x.2.2.1) (fun _ => rfl) (fun n x => by kernel_rfl)
theorem F_lodgeref3_Elems_ok (S : Nat → Addr) (N : Nat) : ∀ x y, (c_lodgeref3_Elems N).g x = some y → FCon Go.Proofs.Tryd.prog E S 56 ps_lodgeref3_Elems rs_lodgeref3_Elems x y := by
  intro x y h
  exact fun_spec E_ok mixed (cs_lodgeref3_Elems_ok S N) (f := 56) (fi := ⟨b_lodgeref3_Elems, 22, Go.Proofs.Tryd.f56.results.toList⟩) (by kernel_rfl) (ls := [l_lodgeref3_Elems_0 N]) (.cons (by kernel_rfl) (g_lodgeref3_Elems_0_ok S N N) (.nil)) (by kernel_rfl) (ps := ps_lodgeref3_Elems) (rs := rs_lodgeref3_Elems) (Eq.trans (b := F_lodgeref3_Elems N x.1) (by kernel_rfl) h)

/-! lodge/lodgeref3.in -/

abbrev ps_lodgeref3_in : List Ty := [(.int .i64), .bool]
abbrev rs_lodgeref3_in : List Slot := [.data .bool]
abbrev cs_lodgeref3_in (N : Nat) : List CallSpec := []
noncomputable abbrev b_lodgeref3_in : Code := (Go.Proofs.Tryd.f74.body).getD .skip

def F_lodgeref3_in (N : Nat) (n_0 : Int) (wide_1 : Bool) : Option (Bool × Unit) :=
  cond wide_1
    (
    cond (decide ((-(2147483648 : Int)) ≤ n_0))
      (
      some ((decide (n_0 ≤ (2147483647 : Int))), ()))
      (
      some (false, ())))
    (
    cond (decide ((-(128 : Int)) ≤ n_0))
      (
      some ((decide (n_0 ≤ (127 : Int))), ()))
      (
      some (false, ())))

abbrev c_lodgeref3_in (N : Nat) : CallSpec := ⟨74, ps_lodgeref3_in, rs_lodgeref3_in, fun x => F_lodgeref3_in N x.1 x.2.1⟩

theorem cs_lodgeref3_in_ok (S : Nat → Addr) (N : Nat) : CallsOK Go.Proofs.Tryd.prog E S (cs_lodgeref3_in N) :=
  .nil
theorem F_lodgeref3_in_ok (S : Nat → Addr) (N : Nat) : ∀ x y, (c_lodgeref3_in N).g x = some y → FCon Go.Proofs.Tryd.prog E S 74 ps_lodgeref3_in rs_lodgeref3_in x y := by
  intro x y h
  exact fun_spec E_ok mixed (cs_lodgeref3_in_ok S N) (f := 74) (fi := ⟨b_lodgeref3_in, 18, Go.Proofs.Tryd.f74.results.toList⟩) (by kernel_rfl) (ls := []) (.nil) (by kernel_rfl) (ps := ps_lodgeref3_in) (rs := rs_lodgeref3_in) (Eq.trans (b := F_lodgeref3_in N x.1 x.2.1) (by kernel_rfl) h)

/-! lodge/lodgeref.None -/

abbrev ps_lodgeref_None : List Ty := []
abbrev rs_lodgeref_None : List Slot := [.data (.st (.pair (.int .i64) (.pair .bool (.int .i64))))]
abbrev cs_lodgeref_None (N : Nat) : List CallSpec := []
noncomputable abbrev b_lodgeref_None : Code := (Go.Proofs.Tryd.f48.body).getD .skip

def F_lodgeref_None (N : Nat)  : Option ((Int × (Bool × Int)) × Unit) :=
  some (((0 : Int), (false, (0 : Int))), ())

abbrev c_lodgeref_None (N : Nat) : CallSpec := ⟨48, ps_lodgeref_None, rs_lodgeref_None, fun x => F_lodgeref_None N ⟩

theorem cs_lodgeref_None_ok (S : Nat → Addr) (N : Nat) : CallsOK Go.Proofs.Tryd.prog E S (cs_lodgeref_None N) :=
  .nil
theorem F_lodgeref_None_ok (S : Nat → Addr) (N : Nat) : ∀ x y, (c_lodgeref_None N).g x = some y → FCon Go.Proofs.Tryd.prog E S 48 ps_lodgeref_None rs_lodgeref_None x y := by
  intro x y h
  exact fun_spec E_ok mixed (cs_lodgeref_None_ok S N) (f := 48) (fi := ⟨b_lodgeref_None, 2, Go.Proofs.Tryd.f48.results.toList⟩) (by kernel_rfl) (ls := []) (.nil) (by kernel_rfl) (ps := ps_lodgeref_None) (rs := rs_lodgeref_None) (Eq.trans (b := F_lodgeref_None N ) (by kernel_rfl) h)

/-! lodge/lodgeref.Placed -/

abbrev ps_lodgeref_Placed : List Ty := [(.int .i64), (.int .i64)]
abbrev rs_lodgeref_Placed : List Slot := [.data (.st (.pair (.int .i64) (.pair .bool (.int .i64))))]
abbrev cs_lodgeref_Placed (N : Nat) : List CallSpec := [c_lodgeref_None N]
noncomputable abbrev b_lodgeref_Placed : Code := (Go.Proofs.Tryd.f75.body).getD .skip

def F_lodgeref_Placed (N : Nat) (code_0 : Int) (pos_1 : Int) : Option ((Int × (Bool × Int)) × Unit) :=
  cond (decide (code_0 = (0 : Int)))
    (
    Option.bind (F_lodgeref_None N) fun y0 =>
    some y0)
    (
    some ((code_0, (true, pos_1)), ()))

abbrev c_lodgeref_Placed (N : Nat) : CallSpec := ⟨75, ps_lodgeref_Placed, rs_lodgeref_Placed, fun x => F_lodgeref_Placed N x.1 x.2.1⟩

theorem cs_lodgeref_Placed_ok (S : Nat → Addr) (N : Nat) : CallsOK Go.Proofs.Tryd.prog E S (cs_lodgeref_Placed N) :=
  .cons (F_lodgeref_None_ok S N) (.nil)
theorem F_lodgeref_Placed_ok (S : Nat → Addr) (N : Nat) : ∀ x y, (c_lodgeref_Placed N).g x = some y → FCon Go.Proofs.Tryd.prog E S 75 ps_lodgeref_Placed rs_lodgeref_Placed x y := by
  intro x y h
  exact fun_spec E_ok mixed (cs_lodgeref_Placed_ok S N) (f := 75) (fi := ⟨b_lodgeref_Placed, 11, Go.Proofs.Tryd.f75.results.toList⟩) (by kernel_rfl) (ls := []) (.nil) (by kernel_rfl) (ps := ps_lodgeref_Placed) (rs := rs_lodgeref_Placed) (Eq.trans (b := F_lodgeref_Placed N x.1 x.2.1) (by kernel_rfl) h)

/-! lodge/lodgeref3.Valid -/

abbrev ps_lodgeref3_Valid : List Ty := [(.st (.pair (.st (.pair (.sl (.int .i64)) .bool)) (.sl (.int .i64))))]
abbrev rs_lodgeref3_Valid : List Slot := [.data (.st (.pair (.int .i64) (.pair .bool (.int .i64))))]
abbrev cs_lodgeref3_Valid (N : Nat) : List CallSpec := [c_lodgeref3_ValidDesc N, c_lodgeref_Bare N, c_lodgeref3_Elems N, c_lodgeref3_in N, c_lodgeref_None N, c_lodgeref_Placed N]
noncomputable abbrev b_lodgeref3_Valid : Code := (Go.Proofs.Tryd.f44.body).getD .skip

abbrev h_lodgeref3_Valid_0 : List Slot := [.dead, .box [.d (.st (.pair (.st (.pair (.sl (.int .i64)) .bool)) (.sl (.int .i64))))], .box [.d (.st (.pair (.int .i64) (.pair .bool (.int .i64))))], .dead, .data (.int .i64), .dead, .dead, .dead, .dead, .dead, .dead, .dead, .dead, .dead, .dead, .dead, .dead, .dead, .dead, .dead, .dead, .dead, .dead, .dead, .dead, .dead, .dead, .dead, .dead, .dead, .dead, .dead, .dead, .dead, .dead, .dead, .dead, .dead, .dead, .dead, .dead]
abbrev e_lodgeref3_Valid_0 : List (AX × List Slot) := [(AX.exit 0, [.dead, .dead, .box [.d (.st (.pair (.int .i64) (.pair .bool (.int .i64))))], .dead, .dead, .dead, .dead, .dead, .dead, .dead, .dead, .dead, .dead, .dead, .dead, .dead, .dead, .dead, .dead, .dead, .dead, .dead, .dead, .dead, .dead, .dead, .dead, .dead, .dead, .dead, .dead, .dead, .dead, .dead, .dead, .dead, .dead, .dead, .dead, .dead, .dead]), (AX.ret, [.dead, .dead, .box [.d (.st (.pair (.int .i64) (.pair .bool (.int .i64))))], .dead, .dead, .dead, .dead, .dead, .dead, .dead, .dead, .dead, .dead, .dead, .dead, .dead, .dead, .dead, .dead, .dead, .dead, .dead, .dead, .dead, .dead, .dead, .dead, .dead, .dead, .dead, .dead, .dead, .dead, .dead, .dead, .dead, .dead, .dead, .dead, .dead, .dead])]
def g_lodgeref3_Valid_0 (N : Nat) : Nat → (((List Int × Bool) × List Int) × Unit) → ((Int × (Bool × Int)) × Unit) → Int → Option (Sum (((Int × (Bool × Int)) × Unit) × Unit) (((Int × (Bool × Int)) × Unit) × Unit))
  | 0, _, _, _ => none
  | n + 1, t_1, t_2, i_4 =>
    cond (decide (i_4 < (Nat.cast (List.length ((t_1).1).2) : Int)))
      (
      cond (decide ((0 : Int) ≤ i_4))
        (
        cond (decide ((Int.toNat i_4) < (List.length ((t_1).1).2)))
          (
          Option.bind (F_lodgeref3_in N (List.getD ((t_1).1).2 (Int.toNat i_4) (0 : Int)) (((t_1).1).1).2) fun y4 =>
          cond (Bool.not (y4).1)
            (
            Option.bind (F_lodgeref_Placed N (102 : Int) i_4) fun y5 =>
            some (Sum.inr (y5, ())))
            (
            (g_lodgeref3_Valid_0 N n t_1 t_2 (wi64 (i_4 + (1 : Int))))))
          (
          none))
        (
        none))
      (
      some (Sum.inl (t_2, ())))

def F_lodgeref3_Valid (N : Nat) (t_0 : ((List Int × Bool) × List Int)) : Option ((Int × (Bool × Int)) × Unit) :=
  Option.bind (F_lodgeref3_ValidDesc N (t_0).1) fun y0 =>
  cond (decide (@Ne Int (y0).1 (0 : Int)))
    (
    Option.bind (F_lodgeref_Bare N (y0).1) fun y1 =>
    some y1)
    (
    Option.bind (F_lodgeref3_Elems N ((t_0).1).1) fun y2 =>
    cond (decide (@Ne Int (Nat.cast (List.length (t_0).2) : Int) (y2).1))
      (
      Option.bind (F_lodgeref_Bare N (101 : Int)) fun y3 =>
      some y3)
      (
      Option.bind (g_lodgeref3_Valid_0 N N (t_0, ()) (((0 : Int), (false, (0 : Int))), ()) (0 : Int)) fun y4 =>
      Sum.elim (fun y5 =>
        Option.bind (F_lodgeref_None N) fun y6 =>
        some y6)
        (fun y7 =>
        some (y7).1) y4))

abbrev c_lodgeref3_Valid (N : Nat) : CallSpec := ⟨44, ps_lodgeref3_Valid, rs_lodgeref3_Valid, fun x => F_lodgeref3_Valid N x.1⟩
abbrev l_lodgeref3_Valid_0 (N : Nat) : LoopSpec := ⟨0, h_lodgeref3_Valid_0, e_lodgeref3_Valid_0, fun x => g_lodgeref3_Valid_0 N N x.1 x.2.1 x.2.2.1⟩

theorem cs_lodgeref3_Valid_ok (S : Nat → Addr) (N : Nat) : CallsOK Go.Proofs.Tryd.prog E S (cs_lodgeref3_Valid N) :=
  .cons (F_lodgeref3_ValidDesc_ok S N) (.cons (F_lodgeref_Bare_ok S N) (.cons (F_lodgeref3_Elems_ok S N) (.cons (F_lodgeref3_in_ok S N) (.cons (F_lodgeref_None_ok S N) (.cons (F_lodgeref_Placed_ok S N) (.nil))))))
noncomputable abbrev b_lodgeref3_Valid_0 : Code := (loopsOf b_lodgeref3_Valid).getD 0 .skip
theorem g_lodgeref3_Valid_0_ok (S : Nat → Addr) (N : Nat) : ∀ n x y, (fun (x : Val (slotsTy h_lodgeref3_Valid_0)) => g_lodgeref3_Valid_0 N n x.1 x.2.1 x.2.2.1) x = some y → LoopCon Go.Proofs.Tryd.prog E S b_lodgeref3_Valid_0 (encSlots h_lodgeref3_Valid_0 x) (encEx e_lodgeref3_Valid_0 y).1 (encEx e_lodgeref3_Valid_0 y).2 :=
  loop_spec E_ok mixed (cs_lodgeref3_Valid_ok S N) (all := loopsOf b_lodgeref3_Valid) (ls := []) (.nil) (i := 0) (by kernel_rfl) (inner_of (by kernel_rfl)) (head := h_lodgeref3_Valid_0) (ex := e_lodgeref3_Valid_0) (fun n (x : Val (slotsTy h_lodgeref3_Valid_0)) => g_lodgeref3_Valid_0 N n x.1 x.2.1 x.2.2.1) (fun _ => rfl) (fun n x => by kernel_rfl)
theorem F_lodgeref3_Valid_ok (S : Nat → Addr) (N : Nat) : ∀ x y, (c_lodgeref3_Valid N).g x = some y → FCon Go.Proofs.Tryd.prog E S 44 ps_lodgeref3_Valid rs_lodgeref3_Valid x y := by
  intro x y h
  exact fun_spec E_ok mixed (cs_lodgeref3_Valid_ok S N) (f := 44) (fi := ⟨b_lodgeref3_Valid, 41, Go.Proofs.Tryd.f44.results.toList⟩) (by kernel_rfl) (ls := [l_lodgeref3_Valid_0 N]) (.cons (by kernel_rfl) (g_lodgeref3_Valid_0_ok S N N) (.nil)) (by kernel_rfl) (ps := ps_lodgeref3_Valid) (rs := rs_lodgeref3_Valid) (Eq.trans (b := F_lodgeref3_Valid N x.1) (by kernel_rfl) h)

/-! lodge/lodgeref3.descsOf -/

abbrev ps_lodgeref3_descsOf : List Ty := [(.sl (.st (.pair (.st (.pair (.sl (.int .i64)) .bool)) (.sl (.int .i64)))))]
abbrev rs_lodgeref3_descsOf : List Slot := [.sl (.st (.pair (.sl (.int .i64)) .bool))]
abbrev cs_lodgeref3_descsOf (N : Nat) : List CallSpec := []
noncomputable abbrev b_lodgeref3_descsOf : Code := (Go.Proofs.Tryd.f46.body).getD .skip

abbrev h_lodgeref3_descsOf_0 : List Slot := [.data (.sl (.st (.pair (.st (.pair (.sl (.int .i64)) .bool)) (.sl (.int .i64))))), .dead, .dead, .sl (.st (.pair (.sl (.int .i64)) .bool)), .data (.int .i64), .dead, .dead, .dead, .dead, .dead, .dead, .dead, .dead, .dead, .dead, .dead, .dead, .dead, .dead, .dead]
abbrev e_lodgeref3_descsOf_0 : List (AX × List Slot) := [(AX.exit 0, [.dead, .dead, .dead, .sl (.st (.pair (.sl (.int .i64)) .bool)), .dead, .dead, .dead, .dead, .dead, .dead, .dead, .dead, .dead, .dead, .dead, .dead, .dead, .dead, .dead, .dead])]
def g_lodgeref3_descsOf_0 (N : Nat) : Nat → List (((List Int × Bool) × List Int)) → List ((List Int × Bool)) → Int → Option (List ((List Int × Bool)) × Unit)
  | 0, _, _, _ => none
  | n + 1, ins_0, out_3, i_4 =>
    cond (decide (i_4 < (Nat.cast (List.length ins_0) : Int)))
      (
      cond (decide ((0 : Int) ≤ i_4))
        (
        cond (decide ((Int.toNat i_4) < (List.length ins_0)))
          (
          cond (decide (((0 : Nat) + (List.length out_3)) = (List.length out_3)))
            (
            cond (decide ((((List.length out_3) + 1) * (32 + (1 : Nat))) ≤ Go.Eng.most))
              (
              cond (decide (((List.length out_3) + 1) = (List.length ((List.take (List.length out_3) out_3) ++ (((List.getD ins_0 (Int.toNat i_4) ((([] : List Int), false), ([] : List Int)))).1 :: ([] : List ((List Int) × Bool)))))))
                (
                (g_lodgeref3_descsOf_0 N n ins_0 ((List.take (List.length out_3) out_3) ++ (((List.getD ins_0 (Int.toNat i_4) ((([] : List Int), false), ([] : List Int)))).1 :: ([] : List ((List Int) × Bool)))) (wi64 (i_4 + (1 : Int)))))
                (
                none))
              (
              none))
            (
            none))
          (
          none))
        (
        none))
      (
      cond (decide ((List.length out_3) = (List.length out_3)))
        (
        some (out_3, ()))
        (
        none))

def F_lodgeref3_descsOf (N : Nat) (ins_0 : List (((List Int × Bool) × List Int))) : Option (List ((List Int × Bool)) × Unit) :=
  Option.bind (g_lodgeref3_descsOf_0 N N ins_0 ([] : List ((List Int) × Bool)) (0 : Int)) fun y0 =>
  cond (decide ((List.length (y0).1) = (List.length (y0).1)))
    (
    some y0)
    (
    none)

abbrev c_lodgeref3_descsOf (N : Nat) : CallSpec := ⟨46, ps_lodgeref3_descsOf, rs_lodgeref3_descsOf, fun x => F_lodgeref3_descsOf N x.1⟩
abbrev l_lodgeref3_descsOf_0 (N : Nat) : LoopSpec := ⟨0, h_lodgeref3_descsOf_0, e_lodgeref3_descsOf_0, fun x => g_lodgeref3_descsOf_0 N N x.1 x.2.1 x.2.2.1⟩

theorem cs_lodgeref3_descsOf_ok (S : Nat → Addr) (N : Nat) : CallsOK Go.Proofs.Tryd.prog E S (cs_lodgeref3_descsOf N) :=
  .nil
noncomputable abbrev b_lodgeref3_descsOf_0 : Code := (loopsOf b_lodgeref3_descsOf).getD 0 .skip
theorem g_lodgeref3_descsOf_0_ok (S : Nat → Addr) (N : Nat) : ∀ n x y, (fun (x : Val (slotsTy h_lodgeref3_descsOf_0)) => g_lodgeref3_descsOf_0 N n x.1 x.2.1 x.2.2.1) x = some y → LoopCon Go.Proofs.Tryd.prog E S b_lodgeref3_descsOf_0 (encSlots h_lodgeref3_descsOf_0 x) (encEx e_lodgeref3_descsOf_0 y).1 (encEx e_lodgeref3_descsOf_0 y).2 :=
  loop_spec E_ok mixed (cs_lodgeref3_descsOf_ok S N) (all := loopsOf b_lodgeref3_descsOf) (ls := []) (.nil) (i := 0) (by kernel_rfl) (inner_of (by kernel_rfl)) (head := h_lodgeref3_descsOf_0) (ex := e_lodgeref3_descsOf_0) (fun n (x : Val (slotsTy h_lodgeref3_descsOf_0)) => g_lodgeref3_descsOf_0 N n x.1 x.2.1 x.2.2.1) (fun _ => rfl) (fun n x => by kernel_rfl)
theorem F_lodgeref3_descsOf_ok (S : Nat → Addr) (N : Nat) : ∀ x y, (c_lodgeref3_descsOf N).g x = some y → FCon Go.Proofs.Tryd.prog E S 46 ps_lodgeref3_descsOf rs_lodgeref3_descsOf x y := by
  intro x y h
  exact fun_spec E_ok mixed (cs_lodgeref3_descsOf_ok S N) (f := 46) (fi := ⟨b_lodgeref3_descsOf, 20, Go.Proofs.Tryd.f46.results.toList⟩) (by kernel_rfl) (ls := [l_lodgeref3_descsOf_0 N]) (.cons (by kernel_rfl) (g_lodgeref3_descsOf_0_ok S N N) (.nil)) (by kernel_rfl) (ps := ps_lodgeref3_descsOf) (rs := rs_lodgeref3_descsOf) (Eq.trans (b := F_lodgeref3_descsOf N x.1) (by kernel_rfl) h)

/-! lodge/lodgeref3.Known -/

abbrev ps_lodgeref3_Known : List Ty := [(.int .i64)]
abbrev rs_lodgeref3_Known : List Slot := [.data .bool]
abbrev cs_lodgeref3_Known (N : Nat) : List CallSpec := []
noncomputable abbrev b_lodgeref3_Known : Code := (Go.Proofs.Tryd.f76.body).getD .skip

def F_lodgeref3_Known (N : Nat) (op_0 : Int) : Option (Bool × Unit) :=
  cond (decide ((4 : Int) ≤ op_0))
    (
    some ((decide (op_0 ≤ (21 : Int))), ()))
    (
    some (false, ()))

abbrev c_lodgeref3_Known (N : Nat) : CallSpec := ⟨76, ps_lodgeref3_Known, rs_lodgeref3_Known, fun x => F_lodgeref3_Known N x.1⟩

theorem cs_lodgeref3_Known_ok (S : Nat → Addr) (N : Nat) : CallsOK Go.Proofs.Tryd.prog E S (cs_lodgeref3_Known N) :=
  .nil
theorem F_lodgeref3_Known_ok (S : Nat → Addr) (N : Nat) : ∀ x y, (c_lodgeref3_Known N).g x = some y → FCon Go.Proofs.Tryd.prog E S 76 ps_lodgeref3_Known rs_lodgeref3_Known x y := by
  intro x y h
  exact fun_spec E_ok mixed (cs_lodgeref3_Known_ok S N) (f := 76) (fi := ⟨b_lodgeref3_Known, 9, Go.Proofs.Tryd.f76.results.toList⟩) (by kernel_rfl) (ls := []) (.nil) (by kernel_rfl) (ps := ps_lodgeref3_Known) (rs := rs_lodgeref3_Known) (Eq.trans (b := F_lodgeref3_Known N x.1) (by kernel_rfl) h)

/-! lodge/lodgeref3.descs -/

abbrev ps_lodgeref3_descs : List Ty := [(.sl (.st (.pair (.sl (.int .i64)) .bool)))]
abbrev rs_lodgeref3_descs : List Slot := [.data (.int .i64)]
abbrev cs_lodgeref3_descs (N : Nat) : List CallSpec := [c_lodgeref3_ValidDesc N]
noncomputable abbrev b_lodgeref3_descs : Code := (Go.Proofs.Tryd.f53.body).getD .skip

abbrev h_lodgeref3_descs_0 : List Slot := [.data (.sl (.st (.pair (.sl (.int .i64)) .bool))), .dead, .dead, .data (.int .i64), .dead, .dead, .dead, .dead, .dead, .dead, .dead, .dead, .dead, .dead, .dead, .dead, .dead, .dead, .dead]
abbrev e_lodgeref3_descs_0 : List (AX × List Slot) := [(AX.exit 0, [.dead, .dead, .dead, .dead, .dead, .dead, .dead, .dead, .dead, .dead, .dead, .dead, .dead, .dead, .dead, .dead, .dead, .dead, .dead]), (AX.ret, [.dead, .dead, .data (.int .i64), .dead, .dead, .dead, .dead, .dead, .dead, .dead, .dead, .dead, .dead, .dead, .dead, .dead, .dead, .dead, .dead])]
def g_lodgeref3_descs_0 (N : Nat) : Nat → List ((List Int × Bool)) → Int → Option (Sum Unit (Int × Unit))
  | 0, _, _ => none
  | n + 1, l_0, i_3 =>
    cond (decide (i_3 < (Nat.cast (List.length l_0) : Int)))
      (
      cond (decide ((0 : Int) ≤ i_3))
        (
        cond (decide ((Int.toNat i_3) < (List.length l_0)))
          (
          Option.bind (F_lodgeref3_ValidDesc N (List.getD l_0 (Int.toNat i_3) (([] : List Int), false))) fun y1 =>
          cond (decide (@Ne Int (y1).1 (0 : Int)))
            (
            some (Sum.inr y1))
            (
            (g_lodgeref3_descs_0 N n l_0 (wi64 (i_3 + (1 : Int))))))
          (
          none))
        (
        none))
      (
      some (Sum.inl ()))

def F_lodgeref3_descs (N : Nat) (l_0 : List ((List Int × Bool))) : Option (Int × Unit) :=
  Option.bind (g_lodgeref3_descs_0 N N l_0 (0 : Int)) fun y0 =>
  Sum.elim (fun y1 =>
    some ((0 : Int), ()))
    (fun y2 =>
    some y2) y0

abbrev c_lodgeref3_descs (N : Nat) : CallSpec := ⟨53, ps_lodgeref3_descs, rs_lodgeref3_descs, fun x => F_lodgeref3_descs N x.1⟩
abbrev l_lodgeref3_descs_0 (N : Nat) : LoopSpec := ⟨0, h_lodgeref3_descs_0, e_lodgeref3_descs_0, fun x => g_lodgeref3_descs_0 N N x.1 x.2.1⟩

theorem cs_lodgeref3_descs_ok (S : Nat → Addr) (N : Nat) : CallsOK Go.Proofs.Tryd.prog E S (cs_lodgeref3_descs N) :=
  .cons (F_lodgeref3_ValidDesc_ok S N) (.nil)
noncomputable abbrev b_lodgeref3_descs_0 : Code := (loopsOf b_lodgeref3_descs).getD 0 .skip
theorem g_lodgeref3_descs_0_ok (S : Nat → Addr) (N : Nat) : ∀ n x y, (fun (x : Val (slotsTy h_lodgeref3_descs_0)) => g_lodgeref3_descs_0 N n x.1 x.2.1) x = some y → LoopCon Go.Proofs.Tryd.prog E S b_lodgeref3_descs_0 (encSlots h_lodgeref3_descs_0 x) (encEx e_lodgeref3_descs_0 y).1 (encEx e_lodgeref3_descs_0 y).2 :=
  loop_spec E_ok mixed (cs_lodgeref3_descs_ok S N) (all := loopsOf b_lodgeref3_descs) (ls := []) (.nil) (i := 0) (by kernel_rfl) (inner_of (by kernel_rfl)) (head := h_lodgeref3_descs_0) (ex := e_lodgeref3_descs_0) (fun n (x : Val (slotsTy h_lodgeref3_descs_0)) => g_lodgeref3_descs_0 N n x.1 x.2.1) (fun _ => rfl) (fun n x => by kernel_rfl)
theorem F_lodgeref3_descs_ok (S : Nat → Addr) (N : Nat) : ∀ x y, (c_lodgeref3_descs N).g x = some y → FCon Go.Proofs.Tryd.prog E S 53 ps_lodgeref3_descs rs_lodgeref3_descs x y := by
  intro x y h
  exact fun_spec E_ok mixed (cs_lodgeref3_descs_ok S N) (f := 53) (fi := ⟨b_lodgeref3_descs, 19, Go.Proofs.Tryd.f53.results.toList⟩) (by kernel_rfl) (ls := [l_lodgeref3_descs_0 N]) (.cons (by kernel_rfl) (g_lodgeref3_descs_0_ok S N N) (.nil)) (by kernel_rfl) (ps := ps_lodgeref3_descs) (rs := rs_lodgeref3_descs) (Eq.trans (b := F_lodgeref3_descs N x.1) (by kernel_rfl) h)

/-! lodge/lodgeref.SameDesc -/

abbrev ps_lodgeref_SameDesc : List Ty := [(.st (.pair (.sl (.int .i64)) .bool)), (.st (.pair (.sl (.int .i64)) .bool))]
abbrev rs_lodgeref_SameDesc : List Slot := [.data .bool]
abbrev cs_lodgeref_SameDesc (N : Nat) : List CallSpec := [c_lodgeref_SameInts N]
noncomputable abbrev b_lodgeref_SameDesc : Code := (Go.Proofs.Tryd.f26.body).getD .skip

def F_lodgeref_SameDesc (N : Nat) (a_0 : (List Int × Bool)) (b_1 : (List Int × Bool)) : Option (Bool × Unit) :=
  Option.bind (F_lodgeref_SameInts N (a_0).1 (b_1).1) fun y0 =>
  cond (y0).1
    (
    some (((a_0).2 == (b_1).2), ()))
    (
    some (false, ()))

abbrev c_lodgeref_SameDesc (N : Nat) : CallSpec := ⟨26, ps_lodgeref_SameDesc, rs_lodgeref_SameDesc, fun x => F_lodgeref_SameDesc N x.1 x.2.1⟩

theorem cs_lodgeref_SameDesc_ok (S : Nat → Addr) (N : Nat) : CallsOK Go.Proofs.Tryd.prog E S (cs_lodgeref_SameDesc N) :=
  .cons (F_lodgeref_SameInts_ok S N) (.nil)
theorem F_lodgeref_SameDesc_ok (S : Nat → Addr) (N : Nat) : ∀ x y, (c_lodgeref_SameDesc N).g x = some y → FCon Go.Proofs.Tryd.prog E S 26 ps_lodgeref_SameDesc rs_lodgeref_SameDesc x y := by
  intro x y h
  exact fun_spec E_ok mixed (cs_lodgeref_SameDesc_ok S N) (f := 26) (fi := ⟨b_lodgeref_SameDesc, 19, Go.Proofs.Tryd.f26.results.toList⟩) (by kernel_rfl) (ls := []) (.nil) (by kernel_rfl) (ps := ps_lodgeref_SameDesc) (rs := rs_lodgeref_SameDesc) (Eq.trans (b := F_lodgeref_SameDesc N x.1 x.2.1) (by kernel_rfl) h)

/-! lodge/lodgeref.Ints -/

abbrev ps_lodgeref_Ints : List Ty := [(.sl (.int .i64))]
abbrev rs_lodgeref_Ints : List Slot := [.sl (.int .i64)]
abbrev cs_lodgeref_Ints (N : Nat) : List CallSpec := []
noncomputable abbrev b_lodgeref_Ints : Code := (Go.Proofs.Tryd.f38.body).getD .skip

abbrev h_lodgeref_Ints_0 : List Slot := [.data (.sl (.int .i64)), .dead, .dead, .sl (.int .i64), .data (.int .i64), .dead, .dead, .dead, .dead, .dead, .dead, .dead, .dead, .dead, .dead, .dead, .dead, .dead, .dead, .dead, .dead, .dead]
abbrev e_lodgeref_Ints_0 : List (AX × List Slot) := [(AX.exit 0, [.dead, .dead, .dead, .sl (.int .i64), .dead, .dead, .dead, .dead, .dead, .dead, .dead, .dead, .dead, .dead, .dead, .dead, .dead, .dead, .dead, .dead, .dead, .dead])]
def g_lodgeref_Ints_0 (N : Nat) : Nat → List Int → List Int → Int → Option (List Int × Unit)
  | 0, _, _, _ => none
  | n + 1, l_0, out_3, i_4 =>
    cond (decide (i_4 < (Nat.cast (List.length l_0) : Int)))
      (
      cond (decide ((0 : Int) ≤ i_4))
        (
        cond (decide ((Int.toNat i_4) < (List.length l_0)))
          (
          cond (decide (((0 : Nat) + (List.length out_3)) = (List.length out_3)))
            (
            cond (decide ((((List.length out_3) + 1) * (8 + (1 : Nat))) ≤ Go.Eng.most))
              (
              cond (decide (((List.length out_3) + 1) = (List.length ((List.take (List.length out_3) out_3) ++ ((List.getD l_0 (Int.toNat i_4) (0 : Int)) :: ([] : List Int))))))
                (
                (g_lodgeref_Ints_0 N n l_0 ((List.take (List.length out_3) out_3) ++ ((List.getD l_0 (Int.toNat i_4) (0 : Int)) :: ([] : List Int))) (wi64 (i_4 + (1 : Int)))))
                (
                none))
              (
              none))
            (
            none))
          (
          none))
        (
        none))
      (
      cond (decide ((List.length out_3) = (List.length out_3)))
        (
        some (out_3, ()))
        (
        none))

def F_lodgeref_Ints (N : Nat) (l_0 : List Int) : Option (List Int × Unit) :=
  cond (decide (((Nat.cast (List.length l_0) : Int) * ((Nat.cast 8 : Int) + (1 : Int))) ≤ (Nat.cast Go.Eng.most : Int)))
    (
    Option.bind (g_lodgeref_Ints_0 N N l_0 (List.replicate 0 (0 : Int)) (0 : Int)) fun y0 =>
    cond (decide ((List.length (y0).1) = (List.length (y0).1)))
      (
      some y0)
      (
      none))
    (
    none)

abbrev c_lodgeref_Ints (N : Nat) : CallSpec := ⟨38, ps_lodgeref_Ints, rs_lodgeref_Ints, fun x => F_lodgeref_Ints N x.1⟩
abbrev l_lodgeref_Ints_0 (N : Nat) : LoopSpec := ⟨0, h_lodgeref_Ints_0, e_lodgeref_Ints_0, fun x => g_lodgeref_Ints_0 N N x.1 x.2.1 x.2.2.1⟩

theorem cs_lodgeref_Ints_ok (S : Nat → Addr) (N : Nat) : CallsOK Go.Proofs.Tryd.prog E S (cs_lodgeref_Ints N) :=
  .nil
noncomputable abbrev b_lodgeref_Ints_0 : Code := (loopsOf b_lodgeref_Ints).getD 0 .skip
theorem g_lodgeref_Ints_0_ok (S : Nat → Addr) (N : Nat) : ∀ n x y, (fun (x : Val (slotsTy h_lodgeref_Ints_0)) => g_lodgeref_Ints_0 N n x.1 x.2.1 x.2.2.1) x = some y → LoopCon Go.Proofs.Tryd.prog E S b_lodgeref_Ints_0 (encSlots h_lodgeref_Ints_0 x) (encEx e_lodgeref_Ints_0 y).1 (encEx e_lodgeref_Ints_0 y).2 :=
  loop_spec E_ok mixed (cs_lodgeref_Ints_ok S N) (all := loopsOf b_lodgeref_Ints) (ls := []) (.nil) (i := 0) (by kernel_rfl) (inner_of (by kernel_rfl)) (head := h_lodgeref_Ints_0) (ex := e_lodgeref_Ints_0) (fun n (x : Val (slotsTy h_lodgeref_Ints_0)) => g_lodgeref_Ints_0 N n x.1 x.2.1 x.2.2.1) (fun _ => rfl) (fun n x => by kernel_rfl)
theorem F_lodgeref_Ints_ok (S : Nat → Addr) (N : Nat) : ∀ x y, (c_lodgeref_Ints N).g x = some y → FCon Go.Proofs.Tryd.prog E S 38 ps_lodgeref_Ints rs_lodgeref_Ints x y := by
  intro x y h
  exact fun_spec E_ok mixed (cs_lodgeref_Ints_ok S N) (f := 38) (fi := ⟨b_lodgeref_Ints, 22, Go.Proofs.Tryd.f38.results.toList⟩) (by kernel_rfl) (ls := [l_lodgeref_Ints_0 N]) (.cons (by kernel_rfl) (g_lodgeref_Ints_0_ok S N N) (.nil)) (by kernel_rfl) (ps := ps_lodgeref_Ints) (rs := rs_lodgeref_Ints) (Eq.trans (b := F_lodgeref_Ints N x.1) (by kernel_rfl) h)

/-! lodge/lodgeref.Desc -/

abbrev ps_lodgeref_Desc : List Ty := [(.st (.pair (.sl (.int .i64)) .bool))]
abbrev rs_lodgeref_Desc : List Slot := [.ag [.sl (.int .i64), .d .bool]]
abbrev cs_lodgeref_Desc (N : Nat) : List CallSpec := [c_lodgeref_Ints N]
noncomputable abbrev b_lodgeref_Desc : Code := (Go.Proofs.Tryd.f37.body).getD .skip

def F_lodgeref_Desc (N : Nat) (a_0 : (List Int × Bool)) : Option ((List Int × (Bool × Unit)) × Unit) :=
  Option.bind (F_lodgeref_Ints N (a_0).1) fun y0 =>
  cond (decide ((List.length (y0).1) = (List.length (y0).1)))
    (
    some (((y0).1, ((a_0).2, ())), ()))
    (
    none)

abbrev c_lodgeref_Desc (N : Nat) : CallSpec := ⟨37, ps_lodgeref_Desc, rs_lodgeref_Desc, fun x => F_lodgeref_Desc N x.1⟩

theorem cs_lodgeref_Desc_ok (S : Nat → Addr) (N : Nat) : CallsOK Go.Proofs.Tryd.prog E S (cs_lodgeref_Desc N) :=
  .cons (F_lodgeref_Ints_ok S N) (.nil)
theorem F_lodgeref_Desc_ok (S : Nat → Addr) (N : Nat) : ∀ x y, (c_lodgeref_Desc N).g x = some y → FCon Go.Proofs.Tryd.prog E S 37 ps_lodgeref_Desc rs_lodgeref_Desc x y := by
  intro x y h
  exact fun_spec E_ok mixed (cs_lodgeref_Desc_ok S N) (f := 37) (fi := ⟨b_lodgeref_Desc, 9, Go.Proofs.Tryd.f37.results.toList⟩) (by kernel_rfl) (ls := []) (.nil) (by kernel_rfl) (ps := ps_lodgeref_Desc) (rs := rs_lodgeref_Desc) (Eq.trans (b := F_lodgeref_Desc N x.1) (by kernel_rfl) h)

/-! lodge/lodgeref3.narrow -/

abbrev ps_lodgeref3_narrow : List Ty := [(.int .i64)]
abbrev rs_lodgeref3_narrow : List Slot := [.data .bool]
abbrev cs_lodgeref3_narrow (N : Nat) : List CallSpec := [c_lodgeref3_in N]
noncomputable abbrev b_lodgeref3_narrow : Code := (Go.Proofs.Tryd.f98.body).getD .skip

def F_lodgeref3_narrow (N : Nat) (n_0 : Int) : Option (Bool × Unit) :=
  Option.bind (F_lodgeref3_in N n_0 false) fun y0 =>
  some y0

abbrev c_lodgeref3_narrow (N : Nat) : CallSpec := ⟨98, ps_lodgeref3_narrow, rs_lodgeref3_narrow, fun x => F_lodgeref3_narrow N x.1⟩

theorem cs_lodgeref3_narrow_ok (S : Nat → Addr) (N : Nat) : CallsOK Go.Proofs.Tryd.prog E S (cs_lodgeref3_narrow N) :=
  .cons (F_lodgeref3_in_ok S N) (.nil)
theorem F_lodgeref3_narrow_ok (S : Nat → Addr) (N : Nat) : ∀ x y, (c_lodgeref3_narrow N).g x = some y → FCon Go.Proofs.Tryd.prog E S 98 ps_lodgeref3_narrow rs_lodgeref3_narrow x y := by
  intro x y h
  exact fun_spec E_ok mixed (cs_lodgeref3_narrow_ok S N) (f := 98) (fi := ⟨b_lodgeref3_narrow, 5, Go.Proofs.Tryd.f98.results.toList⟩) (by kernel_rfl) (ls := []) (.nil) (by kernel_rfl) (ps := ps_lodgeref3_narrow) (rs := rs_lodgeref3_narrow) (Eq.trans (b := F_lodgeref3_narrow N x.1) (by kernel_rfl) h)


end Go.Proofs.YtohkmbpdjigjdaaDoor.Lg
