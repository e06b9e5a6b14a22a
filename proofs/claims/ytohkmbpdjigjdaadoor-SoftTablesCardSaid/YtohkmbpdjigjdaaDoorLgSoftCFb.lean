/-
  The functions of the seat's program, as plain functions.
-/
import Derived.Test.YtohkmbpdjigjdaaDoorLgSoftCFa
namespace Go.Proofs.YtohkmbpdjigjdaaDoor.Lg
open Go Go.Eng Go.Proofs
set_option maxRecDepth 100000

/-! lodge/soft.At -/

abbrev ps_soft_At : List Ty := [(.int .i64), (.int .i64), (.sl (.st (.pair (.sl (.int .i64)) .bool))), (.sl (.clo 72 (.ref (.st (.pair (.st (.pair (.sl (.int .i64)) .bool)) (.sl (.int .i64)))))))]
abbrev rs_soft_At : List Slot := [.data (.int .i64)]
abbrev cs_soft_At (N : Nat) : List CallSpec := [c_soft_reads_1 N, c_soft_softmax N, c_tens_Wide N]
noncomputable abbrev b_soft_At : Code := (Go.Proofs.Tryd.f41.body).getD .skip

abbrev h_soft_At_1 : List Slot := [.dead, .data (.int .i64), .dead, .dead, .dead, .dead, .dead, .dead, .dead, .dead, .data (.int .i64), .data (.clo 72 (.ref (.st (.pair (.st (.pair (.sl (.int .i64)) .bool)) (.sl (.int .i64)))))), .dead, .dead, .data (.int .i64), .dead, .dead, .dead, .dead, .dead, .dead, .dead, .dead, .dead, .dead, .dead, .dead, .dead, .dead, .dead, .dead, .dead, .dead, .dead, .dead, .dead, .dead, .dead, .dead, .dead, .dead, .dead, .dead, .dead, .dead, .dead, .dead, .dead, .dead, .dead, .dead, .dead, .dead, .dead, .dead, .dead, .dead, .dead, .dead, .dead, .dead, .dead, .dead, .dead, .dead, .dead, .data (.int .i64), .data (.int .i64), .dead, .dead, .dead, .dead, .dead, .dead, .dead, .dead, .dead, .dead, .dead, .dead, .dead, .dead, .dead, .dead, .dead, .dead, .dead, .dead, .dead, .dead, .dead, .dead, .dead, .dead, .dead, .dead, .dead, .dead, .dead, .dead, .dead, .dead, .dead, .dead]
abbrev e_soft_At_1 : List (AX × List Slot) := [(AX.exit 3, [.dead, .dead, .dead, .dead, .dead, .dead, .dead, .dead, .dead, .dead, .dead, .dead, .dead, .dead, .data (.int .i64), .dead, .dead, .dead, .dead, .dead, .dead, .dead, .dead, .dead, .dead, .dead, .dead, .dead, .dead, .dead, .dead, .dead, .dead, .dead, .dead, .dead, .dead, .dead, .dead, .dead, .dead, .dead, .dead, .dead, .dead, .dead, .dead, .dead, .dead, .dead, .dead, .dead, .dead, .dead, .dead, .dead, .dead, .dead, .dead, .dead, .dead, .dead, .dead, .dead, .dead, .dead, .dead, .dead, .dead, .dead, .dead, .dead, .dead, .dead, .dead, .dead, .dead, .dead, .dead, .dead, .dead, .dead, .dead, .dead, .dead, .dead, .dead, .dead, .dead, .dead, .dead, .dead, .dead, .dead, .dead, .dead, .dead, .dead, .dead, .dead, .dead, .dead, .dead, .dead])]
def g_soft_At_1 (N : Nat) : Nat → Int → Int → ((List Int × Bool) × List Int) → Int → Int → Int → Option (Int × Unit)
  | 0, _, _, _, _, _, _ => none
  | n + 1, i_1, n_10, get_11, s_14, t_66, t_67 =>
    cond (decide (t_67 < t_66))
      (
      Option.bind (F_soft_reads_1 N (wi64 ((wi64 (i_1 * n_10)) + t_67)) get_11) fun y3 =>
      (g_soft_At_1 N n i_1 n_10 get_11 (wi64 (s_14 + (y3).1)) t_66 (wi64 (t_67 + (1 : Int)))))
      (
      some (s_14, ()))

abbrev h_soft_At_0 : List Slot := [.dead, .data (.int .i64), .dead, .dead, .dead, .dead, .dead, .dead, .dead, .dead, .data (.int .i64), .data (.clo 72 (.ref (.st (.pair (.st (.pair (.sl (.int .i64)) .bool)) (.sl (.int .i64)))))), .data (.int .i64), .dead, .dead, .dead, .dead, .dead, .dead, .dead, .dead, .dead, .dead, .dead, .dead, .dead, .dead, .dead, .dead, .dead, .dead, .dead, .dead, .dead, .dead, .dead, .dead, .dead, .dead, .dead, .dead, .dead, .data (.int .i64), .data (.int .i64), .dead, .dead, .dead, .dead, .dead, .dead, .dead, .dead, .dead, .dead, .dead, .dead, .dead, .dead, .dead, .dead, .dead, .dead, .dead, .dead, .dead, .dead, .dead, .dead, .dead, .dead, .dead, .dead, .dead, .dead, .dead, .dead, .dead, .dead, .dead, .dead, .dead, .dead, .dead, .dead, .dead, .dead, .dead, .dead, .dead, .dead, .dead, .dead, .dead, .dead, .dead, .dead, .dead, .dead, .dead, .dead, .dead, .dead, .dead, .dead]
abbrev e_soft_At_0 : List (AX × List Slot) := [(AX.exit 1, [.dead, .dead, .dead, .dead, .dead, .dead, .dead, .dead, .dead, .dead, .dead, .dead, .data (.int .i64), .dead, .dead, .dead, .dead, .dead, .dead, .dead, .dead, .dead, .dead, .dead, .dead, .dead, .dead, .dead, .dead, .dead, .dead, .dead, .dead, .dead, .dead, .dead, .dead, .dead, .dead, .dead, .dead, .dead, .dead, .dead, .dead, .dead, .dead, .dead, .dead, .dead, .dead, .dead, .dead, .dead, .dead, .dead, .dead, .dead, .dead, .dead, .dead, .dead, .dead, .dead, .dead, .dead, .dead, .dead, .dead, .dead, .dead, .dead, .dead, .dead, .dead, .dead, .dead, .dead, .dead, .dead, .dead, .dead, .dead, .dead, .dead, .dead, .dead, .dead, .dead, .dead, .dead, .dead, .dead, .dead, .dead, .dead, .dead, .dead, .dead, .dead, .dead, .dead, .dead, .dead])]
def g_soft_At_0 (N : Nat) : Nat → Int → Int → ((List Int × Bool) × List Int) → Int → Int → Int → Option (Int × Unit)
  | 0, _, _, _, _, _, _ => none
  | n + 1, i_1, n_10, get_11, best_12, t_42, t_43 =>
    cond (decide (t_43 < t_42))
      (
      Option.bind (F_soft_reads_1 N (wi64 ((wi64 (i_1 * n_10)) + t_43)) get_11) fun y8 =>
      Option.bind (F_soft_reads_1 N (wi64 ((wi64 (i_1 * n_10)) + best_12)) get_11) fun y9 =>
      cond (decide ((y9).1 < (y8).1))
        (
        (g_soft_At_0 N n i_1 n_10 get_11 t_43 t_42 (wi64 (t_43 + (1 : Int)))))
        (
        (g_soft_At_0 N n i_1 n_10 get_11 best_12 t_42 (wi64 (t_43 + (1 : Int))))))
      (
      some (best_12, ()))

def F_soft_At (N : Nat) (op_0 : Int) (i_1 : Int) (descs_2 : List ((List Int × Bool))) (ins_3 : List ((List Int × Bool) × List Int)) : Option (Int × Unit) :=
  cond (decide (0 < (List.length descs_2)))
    (
    cond (decide ((0 : Int) ≤ (wi64 ((Nat.cast (List.length ((List.getD descs_2 0 (([] : List Int), false))).1) : Int) - (1 : Int)))))
      (
      cond (decide ((Int.toNat (wi64 ((Nat.cast (List.length ((List.getD descs_2 0 (([] : List Int), false))).1) : Int) - (1 : Int)))) < (List.length ((List.getD descs_2 0 (([] : List Int), false))).1)))
        (
        cond (decide (0 < (List.length ins_3)))
          (
          cond (decide (op_0 = (16 : Int)))
            (
            cond (decide (1 < (List.length ins_3)))
              (
              Option.bind (F_soft_softmax N (List.getD ins_3 0 ((([] : List Int), false), ([] : List Int))) (List.getD ins_3 1 ((([] : List Int), false), ([] : List Int))) i_1 (List.getD ((List.getD descs_2 0 (([] : List Int), false))).1 (Int.toNat (wi64 ((Nat.cast (List.length ((List.getD descs_2 0 (([] : List Int), false))).1) : Int) - (1 : Int)))) (0 : Int))) fun y0 =>
              some y0)
              (
              none))
            (
            cond (decide (op_0 = (19 : Int)))
              (
              Option.bind (g_soft_At_0 N N i_1 (List.getD ((List.getD descs_2 0 (([] : List Int), false))).1 (Int.toNat (wi64 ((Nat.cast (List.length ((List.getD descs_2 0 (([] : List Int), false))).1) : Int) - (1 : Int)))) (0 : Int)) (List.getD ins_3 0 ((([] : List Int), false), ([] : List Int))) (0 : Int) (List.getD ((List.getD descs_2 0 (([] : List Int), false))).1 (Int.toNat (wi64 ((Nat.cast (List.length ((List.getD descs_2 0 (([] : List Int), false))).1) : Int) - (1 : Int)))) (0 : Int)) (0 : Int)) fun y1 =>
              some y1)
              (
              cond (decide (op_0 = (20 : Int)))
                (
                Option.bind (g_soft_At_1 N N i_1 (List.getD ((List.getD descs_2 0 (([] : List Int), false))).1 (Int.toNat (wi64 ((Nat.cast (List.length ((List.getD descs_2 0 (([] : List Int), false))).1) : Int) - (1 : Int)))) (0 : Int)) (List.getD ins_3 0 ((([] : List Int), false), ([] : List Int))) (0 : Int) (List.getD ((List.getD descs_2 0 (([] : List Int), false))).1 (Int.toNat (wi64 ((Nat.cast (List.length ((List.getD descs_2 0 (([] : List Int), false))).1) : Int) - (1 : Int)))) (0 : Int)) (0 : Int)) fun y2 =>
                Option.bind (F_tens_Wide N (y2).1) fun y3 =>
                some y3)
                (
                cond (decide (1 < (List.length ins_3)))
                  (
                  cond (decide (@Ne Int (List.getD ((List.getD descs_2 0 (([] : List Int), false))).1 (Int.toNat (wi64 ((Nat.cast (List.length ((List.getD descs_2 0 (([] : List Int), false))).1) : Int) - (1 : Int)))) (0 : Int)) (0 : Int)))
                    (
                    Option.bind (F_soft_reads_1 N (wi64 (Int.tdiv i_1 (List.getD ((List.getD descs_2 0 (([] : List Int), false))).1 (Int.toNat (wi64 ((Nat.cast (List.length ((List.getD descs_2 0 (([] : List Int), false))).1) : Int) - (1 : Int)))) (0 : Int)))) (List.getD ins_3 1 ((([] : List Int), false), ([] : List Int)))) fun y4 =>
                    cond (decide (0 < (List.length ((List.getD descs_2 0 (([] : List Int), false))).1)))
                      (
                      cond (decide (@Ne Int (List.getD ((List.getD descs_2 0 (([] : List Int), false))).1 (Int.toNat (wi64 ((Nat.cast (List.length ((List.getD descs_2 0 (([] : List Int), false))).1) : Int) - (1 : Int)))) (0 : Int)) (0 : Int)))
                        (
                        Option.bind (F_soft_reads_1 N (wi64 ((wi64 ((Go.Eng.imax (0 : Int) (Go.Eng.imin (y4).1 (wi64 ((List.getD ((List.getD descs_2 0 (([] : List Int), false))).1 0 (0 : Int)) - (1 : Int))))) * (List.getD ((List.getD descs_2 0 (([] : List Int), false))).1 (Int.toNat (wi64 ((Nat.cast (List.length ((List.getD descs_2 0 (([] : List Int), false))).1) : Int) - (1 : Int)))) (0 : Int)))) + (Int.tmod i_1 (List.getD ((List.getD descs_2 0 (([] : List Int), false))).1 (Int.toNat (wi64 ((Nat.cast (List.length ((List.getD descs_2 0 (([] : List Int), false))).1) : Int) - (1 : Int)))) (0 : Int))))) (List.getD ins_3 0 ((([] : List Int), false), ([] : List Int)))) fun y5 =>
                        some y5)
                        (
                        none))
                      (
                      none))
                    (
                    none))
                  (
                  none)))))
          (
          none))
        (
        none))
      (
      none))
    (
    none)

abbrev c_soft_At (N : Nat) : CallSpec := ⟨41, ps_soft_At, rs_soft_At, fun x => F_soft_At N x.1 x.2.1 x.2.2.1 x.2.2.2.1⟩
abbrev l_soft_At_1 (N : Nat) : LoopSpec := ⟨1, h_soft_At_1, e_soft_At_1, fun x => g_soft_At_1 N N x.1 x.2.1 x.2.2.1 x.2.2.2.1 x.2.2.2.2.1 x.2.2.2.2.2.1⟩
abbrev l_soft_At_0 (N : Nat) : LoopSpec := ⟨0, h_soft_At_0, e_soft_At_0, fun x => g_soft_At_0 N N x.1 x.2.1 x.2.2.1 x.2.2.2.1 x.2.2.2.2.1 x.2.2.2.2.2.1⟩

theorem cs_soft_At_ok (S : Nat → Addr) (N : Nat) : CallsOK Go.Proofs.Tryd.prog E S (cs_soft_At N) :=
  .cons (F_soft_reads_1_ok S N) (.cons (F_soft_softmax_ok S N) (.cons (F_tens_Wide_ok S N) (.nil)))
noncomputable abbrev b_soft_At_1 : Code := (loopsOf b_soft_At).getD 1 .skip
theorem g_soft_At_1_ok (S : Nat → Addr) (N : Nat) : ∀ n x y, (fun (x : Val (slotsTy h_soft_At_1)) => g_soft_At_1 N n x.1 x.2.1 x.2.2.1 x.2.2.2.1 x.2.2.2.2.1 x.2.2.2.2.2.1) x = some y → LoopCon Go.Proofs.Tryd.prog E S b_soft_At_1 (encSlots h_soft_At_1 x) (encEx e_soft_At_1 y).1 (encEx e_soft_At_1 y).2 :=
  loop_spec E_ok mixed (cs_soft_At_ok S N) (all := loopsOf b_soft_At) (ls := []) (.nil) (i := 1) (by kernel_rfl) (inner_of (by kernel_rfl)) (head := h_soft_At_1) (ex := e_soft_At_1) (fun n (x : Val (slotsTy h_soft_At_1)) => g_soft_At_1 N n x.1 x.2.1 x.2.2.1 x.2.2.2.1 x.2.2.2.2.1 x.2.2.2.2.2.1) (fun _ => rfl) (fun n x => by kernel_rfl)
noncomputable abbrev b_soft_At_0 : Code := (loopsOf b_soft_At).getD 0 .skip
theorem g_soft_At_0_ok (S : Nat → Addr) (N : Nat) : ∀ n x y, (fun (x : Val (slotsTy h_soft_At_0)) => g_soft_At_0 N n x.1 x.2.1 x.2.2.1 x.2.2.2.1 x.2.2.2.2.1 x.2.2.2.2.2.1) x = some y → LoopCon Go.Proofs.Tryd.prog E S b_soft_At_0 (encSlots h_soft_At_0 x) (encEx e_soft_At_0 y).1 (encEx e_soft_At_0 y).2 :=
  loop_spec E_ok mixed (cs_soft_At_ok S N) (all := loopsOf b_soft_At) (ls := []) (.nil) (i := 0) (by kernel_rfl) (inner_of (by kernel_rfl)) (head := h_soft_At_0) (ex := e_soft_At_0) (fun n (x : Val (slotsTy h_soft_At_0)) => g_soft_At_0 N n x.1 x.2.1 x.2.2.1 x.2.2.2.1 x.2.2.2.2.1 x.2.2.2.2.2.1) (fun _ => rfl) (fun n x => by kernel_rfl)
theorem F_soft_At_ok (S : Nat → Addr) (N : Nat) : ∀ x y, (c_soft_At N).g x = some y → FCon Go.Proofs.Tryd.prog E S 41 ps_soft_At rs_soft_At x y := by
  intro x y h
  exact fun_spec E_ok mixed (cs_soft_At_ok S N) (f := 41) (fi := ⟨b_soft_At, 104, Go.Proofs.Tryd.f41.results.toList⟩) (by kernel_rfl) (ls := [l_soft_At_1 N, l_soft_At_0 N]) (.cons (by kernel_rfl) (g_soft_At_1_ok S N N) (.cons (by kernel_rfl) (g_soft_At_0_ok S N N) (.nil))) (by kernel_rfl) (ps := ps_soft_At) (rs := rs_soft_At) (Eq.trans (b := F_soft_At N x.1 x.2.1 x.2.2.1 x.2.2.2.1) (by kernel_rfl) h)

/-! lodge/soft.do -/

abbrev ps_soft_do : List Ty := [(.int .i64), (.sl (.st (.pair (.st (.pair (.sl (.int .i64)) .bool)) (.sl (.int .i64)))))]
abbrev rs_soft_do : List Slot := [.ag [.d (.sl (.int .i64)), .d .bool, .sl (.int .i64)], .data .err]
abbrev cs_soft_do (N : Nat) : List CallSpec := [c_shape_Elems N, c_soft_result N, c_soft_reads N, c_soft_At N]
noncomputable abbrev b_soft_do : Code := (Go.Proofs.Tryd.f36.body).getD .skip

abbrev h_soft_do_0 : List Slot := [.data (.int .i64), .data (.sl (.st (.pair (.st (.pair (.sl (.int .i64)) .bool)) (.sl (.int .i64))))), .dead, .dead, .box [.sl (.int .i64), .d .bool, .sl (.int .i64)], .dead, .dead, .data (.sl (.st (.pair (.sl (.int .i64)) .bool))), .dead, .box [.d (.sl (.int .i64)), .d .bool, .sl (.int .i64)], .dead, .dead, .dead, .dead, .dead, .dead, .dead, .dead, .dead, .dead, .dead, .dead, .dead, .dead, .dead, .dead, .data (.int .i64), .data (.int .i64), .dead, .dead, .dead, .dead, .dead, .dead, .dead, .dead, .dead, .dead, .dead, .dead, .dead, .dead, .dead]
abbrev e_soft_do_0 : List (AX × List Slot) := [(AX.exit 0, [.dead, .dead, .dead, .dead, .box [.sl (.int .i64), .d .bool, .sl (.int .i64)], .dead, .dead, .dead, .dead, .box [.d (.sl (.int .i64)), .d .bool, .sl (.int .i64)], .dead, .dead, .dead, .dead, .dead, .dead, .dead, .dead, .dead, .dead, .dead, .dead, .dead, .dead, .dead, .dead, .dead, .dead, .dead, .dead, .dead, .dead, .dead, .dead, .dead, .dead, .dead, .dead, .dead, .dead, .dead, .dead, .dead])]
def g_soft_do_0 (N : Nat) : Nat → Int → List (((List Int × Bool) × List Int)) → (List Int × (Bool × (List Int × Unit))) → List ((List Int × Bool)) → (List Int × (Bool × (List Int × Unit))) → Int → Int → Option ((List Int × (Bool × (List Int × Unit))) × ((List Int × (Bool × (List Int × Unit))) × Unit))
  | 0, _, _, _, _, _, _, _ => none
  | n + 1, op_0, ins_1, t_4, descs_7, out_9, t_26, t_27 =>
    cond (decide (t_27 < t_26))
      (
      Option.bind (F_soft_reads N ins_1) fun y4 =>
      cond (decide (((0 : Nat) + (List.length (y4).1)) ≤ (List.length (y4).1)))
        (
        Option.bind (F_soft_At N op_0 t_27 descs_7 (List.take (List.length (y4).1) (y4).1)) fun y5 =>
        cond (decide (((0 : Nat) + (List.length (((out_9).2).2).1)) = (List.length (((out_9).2).2).1)))
          (
          cond (decide ((((List.length (((out_9).2).2).1) + 1) * (8 + (1 : Nat))) ≤ Go.Eng.most))
            (
            cond (decide ((List.length (t_4).1) = (List.length (t_4).1)))
              (
              cond (decide ((List.length (((t_4).2).2).1) = (List.length (((t_4).2).2).1)))
                (
                cond (decide (((List.length (((out_9).2).2).1) + 1) = (List.length ((List.take (List.length (((out_9).2).2).1) (((out_9).2).2).1) ++ ((y5).1 :: ([] : List Int))))))
                  (
                  (g_soft_do_0 N n op_0 ins_1 t_4 descs_7 ((out_9).1, (((out_9).2).1, (((List.take (List.length (((out_9).2).2).1) (((out_9).2).2).1) ++ ((y5).1 :: ([] : List Int))), ()))) t_26 (wi64 (t_27 + (1 : Int)))))
                  (
                  none))
                (
                none))
              (
              none))
            (
            none))
          (
          none))
        (
        none))
      (
      cond (decide ((List.length (t_4).1) = (List.length (t_4).1)))
        (
        cond (decide ((List.length (((t_4).2).2).1) = (List.length (((t_4).2).2).1)))
          (
          cond (decide ((List.length (((out_9).2).2).1) = (List.length (((out_9).2).2).1)))
            (
            some (t_4, (out_9, ())))
            (
            none))
          (
          none))
        (
        none))

def F_soft_do (N : Nat) (op_0 : Int) (ins_1 : List (((List Int × Bool) × List Int))) : Option ((List Int × (Bool × (List Int × Unit))) × (Er × Unit)) :=
  Option.bind (F_soft_result N op_0 ins_1) fun y0 =>
  cond (Bool.not (Go.Eng.Er.isNil (((y0).2).2).1))
    (
    some ((([] : List Int), (false, (([] : List Int), ()))), ((y0).2).2))
    (
    Option.bind (F_shape_Elems N ((y0).1).1) fun y1 =>
    Option.bind (g_soft_do_0 N N op_0 ins_1 (([] : List Int), (false, (([] : List Int), ()))) ((y0).2).1 (((y0).1).1, (((y0).1).2, (([] : List Int), ()))) (y1).1 (0 : Int)) fun y2 =>
    cond (decide ((List.length (((((y2).2).1).2).2).1) = (List.length (((((y2).2).1).2).2).1)))
      (
      some (((y2).2).1, (Go.Eng.Er.nil, ())))
      (
      none))

abbrev c_soft_do (N : Nat) : CallSpec := ⟨36, ps_soft_do, rs_soft_do, fun x => F_soft_do N x.1 x.2.1⟩
abbrev l_soft_do_0 (N : Nat) : LoopSpec := ⟨0, h_soft_do_0, e_soft_do_0, fun x => g_soft_do_0 N N x.1 x.2.1 x.2.2.1 x.2.2.2.1 x.2.2.2.2.1 x.2.2.2.2.2.1 x.2.2.2.2.2.2.1⟩

theorem cs_soft_do_ok (S : Nat → Addr) (N : Nat) : CallsOK Go.Proofs.Tryd.prog E S (cs_soft_do N) :=
  .cons (F_shape_Elems_ok S N) (.cons (F_soft_result_ok S N) (.cons (F_soft_reads_ok S N) (.cons (F_soft_At_ok S N) (.nil))))
noncomputable abbrev b_soft_do_0 : Code := (loopsOf b_soft_do).getD 0 .skip
theorem g_soft_do_0_ok (S : Nat → Addr) (N : Nat) : ∀ n x y, (fun (x : Val (slotsTy h_soft_do_0)) => g_soft_do_0 N n x.1 x.2.1 x.2.2.1 x.2.2.2.1 x.2.2.2.2.1 x.2.2.2.2.2.1 x.2.2.2.2.2.2.1) x = some y → LoopCon Go.Proofs.Tryd.prog E S b_soft_do_0 (encSlots h_soft_do_0 x) (encEx e_soft_do_0 y).1 (encEx e_soft_do_0 y).2 :=
  loop_spec E_ok mixed (cs_soft_do_ok S N) (all := loopsOf b_soft_do) (ls := []) (.nil) (i := 0) (by kernel_rfl) (inner_of (by kernel_rfl)) (head := h_soft_do_0) (ex := e_soft_do_0) (fun n (x : Val (slotsTy h_soft_do_0)) => g_soft_do_0 N n x.1 x.2.1 x.2.2.1 x.2.2.2.1 x.2.2.2.2.1 x.2.2.2.2.2.1 x.2.2.2.2.2.2.1) (fun _ => rfl) (fun n x => by kernel_rfl)
theorem F_soft_do_ok (S : Nat → Addr) (N : Nat) : ∀ x y, (c_soft_do N).g x = some y → FCon Go.Proofs.Tryd.prog E S 36 ps_soft_do rs_soft_do x y := by
  intro x y h
  exact fun_spec E_ok mixed (cs_soft_do_ok S N) (f := 36) (fi := ⟨b_soft_do, 43, Go.Proofs.Tryd.f36.results.toList⟩) (by kernel_rfl) (ls := [l_soft_do_0 N]) (.cons (by kernel_rfl) (g_soft_do_0_ok S N N) (.nil)) (by kernel_rfl) (ps := ps_soft_do) (rs := rs_soft_do) (Eq.trans (b := F_soft_do N x.1 x.2.1) (by kernel_rfl) h)

/-! lodge/soft.Softmax -/

abbrev ps_soft_Softmax : List Ty := [(.st (.pair (.st (.pair (.sl (.int .i64)) .bool)) (.sl (.int .i64)))), (.st (.pair (.st (.pair (.sl (.int .i64)) .bool)) (.sl (.int .i64))))]
abbrev rs_soft_Softmax : List Slot := [.ag [.d (.sl (.int .i64)), .d .bool, .sl (.int .i64)], .data .err]
abbrev cs_soft_Softmax (N : Nat) : List CallSpec := [c_soft_do N]
noncomputable abbrev b_soft_Softmax : Code := (Go.Proofs.Tryd.f15.body).getD .skip

def F_soft_Softmax (N : Nat) (a_0 : ((List Int × Bool) × List Int)) (table_1 : ((List Int × Bool) × List Int)) : Option ((List Int × (Bool × (List Int × Unit))) × (Er × Unit)) :=
  Option.bind (F_soft_do N (16 : Int) (a_0 :: (table_1 :: ([] : List (((List Int) × Bool) × (List Int)))))) fun y0 =>
  cond (decide ((List.length ((((y0).1).2).2).1) = (List.length ((((y0).1).2).2).1)))
    (
    some y0)
    (
    none)

abbrev c_soft_Softmax (N : Nat) : CallSpec := ⟨15, ps_soft_Softmax, rs_soft_Softmax, fun x => F_soft_Softmax N x.1 x.2.1⟩

theorem cs_soft_Softmax_ok (S : Nat → Addr) (N : Nat) : CallsOK Go.Proofs.Tryd.prog E S (cs_soft_Softmax N) :=
  .cons (F_soft_do_ok S N) (.nil)
theorem F_soft_Softmax_ok (S : Nat → Addr) (N : Nat) : ∀ x y, (c_soft_Softmax N).g x = some y → FCon Go.Proofs.Tryd.prog E S 15 ps_soft_Softmax rs_soft_Softmax x y := by
  intro x y h
  exact fun_spec E_ok mixed (cs_soft_Softmax_ok S N) (f := 15) (fi := ⟨b_soft_Softmax, 12, Go.Proofs.Tryd.f15.results.toList⟩) (by kernel_rfl) (ls := []) (.nil) (by kernel_rfl) (ps := ps_soft_Softmax) (rs := rs_soft_Softmax) (Eq.trans (b := F_soft_Softmax N x.1 x.2.1) (by kernel_rfl) h)

/-! lodge/lodgeref.SameInts -/

abbrev ps_lodgeref_SameInts : List Ty := [(.sl (.int .i64)), (.sl (.int .i64))]
abbrev rs_lodgeref_SameInts : List Slot := [.data .bool]
abbrev cs_lodgeref_SameInts (N : Nat) : List CallSpec := []
noncomputable abbrev b_lodgeref_SameInts : Code := (Go.Proofs.Tryd.f29.body).getD .skip

abbrev h_lodgeref_SameInts_0 : List Slot := [.data (.sl (.int .i64)), .data (.sl (.int .i64)), .dead, .dead, .dead, .data (.int .i64), .dead, .dead, .dead, .dead, .dead, .dead, .dead, .dead, .dead, .dead, .dead, .dead, .dead, .dead, .dead, .dead, .dead, .dead, .dead, .dead, .dead, .dead, .dead]
abbrev e_lodgeref_SameInts_0 : List (AX × List Slot) := [(AX.exit 0, [.dead, .dead, .dead, .dead, .dead, .dead, .dead, .dead, .dead, .dead, .dead, .dead, .dead, .dead, .dead, .dead, .dead, .dead, .dead, .dead, .dead, .dead, .dead, .dead, .dead, .dead, .dead, .dead, .dead]), (AX.ret, [.dead, .dead, .dead, .dead, .data .bool, .dead, .dead, .dead, .dead, .dead, .dead, .dead, .dead, .dead, .dead, .dead, .dead, .dead, .dead, .dead, .dead, .dead, .dead, .dead, .dead, .dead, .dead, .dead, .dead])]
def g_lodgeref_SameInts_0 (N : Nat) : Nat → List Int → List Int → Int → Option (Sum Unit (Bool × Unit))
  | 0, _, _, _ => none
  | n + 1, a_0, b_1, i_5 =>
    cond (decide (i_5 < (Nat.cast (List.length a_0) : Int)))
      (
      cond (decide ((0 : Int) ≤ i_5))
        (
        cond (decide ((Int.toNat i_5) < (List.length a_0)))
          (
          cond (decide ((0 : Int) ≤ i_5))
            (
            cond (decide ((Int.toNat i_5) < (List.length b_1)))
              (
              cond (Bool.not (decide ((List.getD a_0 (Int.toNat i_5) (0 : Int)) = (List.getD b_1 (Int.toNat i_5) (0 : Int)))))
                (
                some (Sum.inr (false, ())))
                (
                (g_lodgeref_SameInts_0 N n a_0 b_1 (wi64 (i_5 + (1 : Int))))))
              (
              none))
            (
            none))
          (
          none))
        (
        none))
      (
      some (Sum.inl ()))

def F_lodgeref_SameInts (N : Nat) (a_0 : List Int) (b_1 : List Int) : Option (Bool × Unit) :=
  cond (decide (@Ne Int (Nat.cast (List.length a_0) : Int) (Nat.cast (List.length b_1) : Int)))
    (
    some (false, ()))
    (
    Option.bind (g_lodgeref_SameInts_0 N N a_0 b_1 (0 : Int)) fun y0 =>
    Sum.elim (fun y1 =>
      some (true, ()))
      (fun y2 =>
      some y2) y0)

abbrev c_lodgeref_SameInts (N : Nat) : CallSpec := ⟨29, ps_lodgeref_SameInts, rs_lodgeref_SameInts, fun x => F_lodgeref_SameInts N x.1 x.2.1⟩
abbrev l_lodgeref_SameInts_0 (N : Nat) : LoopSpec := ⟨0, h_lodgeref_SameInts_0, e_lodgeref_SameInts_0, fun x => g_lodgeref_SameInts_0 N N x.1 x.2.1 x.2.2.1⟩

theorem cs_lodgeref_SameInts_ok (S : Nat → Addr) (N : Nat) : CallsOK Go.Proofs.Tryd.prog E S (cs_lodgeref_SameInts N) :=
  .nil
noncomputable abbrev b_lodgeref_SameInts_0 : Code := (loopsOf b_lodgeref_SameInts).getD 0 .skip
theorem g_lodgeref_SameInts_0_ok (S : Nat → Addr) (N : Nat) : ∀ n x y, (fun (x : Val (slotsTy h_lodgeref_SameInts_0)) => g_lodgeref_SameInts_0 N n x.1 x.2.1 x.2.2.1) x = some y → LoopCon Go.Proofs.Tryd.prog E S b_lodgeref_SameInts_0 (encSlots h_lodgeref_SameInts_0 x) (encEx e_lodgeref_SameInts_0 y).1 (encEx e_lodgeref_SameInts_0 y).2 :=
  loop_spec E_ok mixed (cs_lodgeref_SameInts_ok S N) (all := loopsOf b_lodgeref_SameInts) (ls := []) (.nil) (i := 0) (by kernel_rfl) (inner_of (by kernel_rfl)) (head := h_lodgeref_SameInts_0) (ex := e_lodgeref_SameInts_0) (fun n (x : Val (slotsTy h_lodgeref_SameInts_0)) => g_lodgeref_SameInts_0 N n x.1 x.2.1 x.2.2.1) (fun _ => rfl) (fun n x => by kernel_rfl)
theorem F_lodgeref_SameInts_ok (S : Nat → Addr) (N : Nat) : ∀ x y, (c_lodgeref_SameInts N).g x = some y → FCon Go.Proofs.Tryd.prog E S 29 ps_lodgeref_SameInts rs_lodgeref_SameInts x y := by
  intro x y h
  exact fun_spec E_ok mixed (cs_lodgeref_SameInts_ok S N) (f := 29) (fi := ⟨b_lodgeref_SameInts, 29, Go.Proofs.Tryd.f29.results.toList⟩) (by kernel_rfl) (ls := [l_lodgeref_SameInts_0 N]) (.cons (by kernel_rfl) (g_lodgeref_SameInts_0_ok S N N) (.nil)) (by kernel_rfl) (ps := ps_lodgeref_SameInts) (rs := rs_lodgeref_SameInts) (Eq.trans (b := F_lodgeref_SameInts N x.1 x.2.1) (by kernel_rfl) h)

/-! lodge/lodgelaw11.first -/

abbrev ps_lodgelaw11_first : List Ty := []
abbrev rs_lodgelaw11_first : List Slot := [.data .bool]
abbrev cs_lodgelaw11_first (N : Nat) : List CallSpec := [c_soft_Table N, c_soft_Softmax N, c_lodgeref_SameInts N]
noncomputable abbrev b_lodgelaw11_first : Code := (Go.Proofs.Tryd.f9.body).getD .skip

def F_lodgelaw11_first (N : Nat)  : Option (Bool × Unit) :=
  Option.bind (F_soft_Table N (4602678819172646912 : Nat)) fun y0 =>
  cond (decide (((0 : Nat) + (List.length ((y0).1).1)) ≤ (List.length ((y0).1).1)))
    (
    cond (decide (((0 : Nat) + (List.length ((((y0).1).2).2).1)) ≤ (List.length ((((y0).1).2).2).1)))
      (
      Option.bind (F_soft_Softmax N ((((2 : Int) :: ([] : List Int)), false), ((0 : Int) :: ((0 : Int) :: ([] : List Int)))) (((List.take (List.length ((y0).1).1) ((y0).1).1), (((y0).1).2).1), (List.take (List.length ((((y0).1).2).2).1) ((((y0).1).2).2).1))) fun y1 =>
      cond (Go.Eng.Er.isNil ((y0).2).1)
        (
        cond (Go.Eng.Er.isNil ((y1).2).1)
          (
          cond (decide (((0 : Nat) + (List.length ((((y1).1).2).2).1)) ≤ (List.length ((((y1).1).2).2).1)))
            (
            Option.bind (F_lodgeref_SameInts N (List.take (List.length ((((y1).1).2).2).1) ((((y1).1).2).2).1) ((0 : Int) :: ((0 : Int) :: ([] : List Int)))) fun y2 =>
            some y2)
            (
            none))
          (
          some (false, ())))
        (
        some (false, ())))
      (
      none))
    (
    none)

abbrev c_lodgelaw11_first (N : Nat) : CallSpec := ⟨9, ps_lodgelaw11_first, rs_lodgelaw11_first, fun x => F_lodgelaw11_first N ⟩

theorem cs_lodgelaw11_first_ok (S : Nat → Addr) (N : Nat) : CallsOK Go.Proofs.Tryd.prog E S (cs_lodgelaw11_first N) :=
  .cons (F_soft_Table_ok S N) (.cons (F_soft_Softmax_ok S N) (.cons (F_lodgeref_SameInts_ok S N) (.nil)))
theorem F_lodgelaw11_first_ok (S : Nat → Addr) (N : Nat) : ∀ x y, (c_lodgelaw11_first N).g x = some y → FCon Go.Proofs.Tryd.prog E S 9 ps_lodgelaw11_first rs_lodgelaw11_first x y := by
  intro x y h
  exact fun_spec E_ok mixed (cs_lodgelaw11_first_ok S N) (f := 9) (fi := ⟨b_lodgelaw11_first, 32, Go.Proofs.Tryd.f9.results.toList⟩) (by kernel_rfl) (ls := []) (.nil) (by kernel_rfl) (ps := ps_lodgelaw11_first) (rs := rs_lodgelaw11_first) (Eq.trans (b := F_lodgelaw11_first N ) (by kernel_rfl) h)

/-! lodge/lodgeref3.Kind -/

abbrev ps_lodgeref3_Kind : List Ty := [.flt]
abbrev rs_lodgeref3_Kind : List Slot := [.data (.int .i64), .data .bool]
abbrev cs_lodgeref3_Kind (N : Nat) : List CallSpec := []
noncomputable abbrev b_lodgeref3_Kind : Code := (Go.Proofs.Tryd.f64.body).getD .skip

def F_lodgeref3_Kind (N : Nat) (x_0 : Nat) : Option (Int × (Bool × Unit)) :=
  cond (decide ((Go.Eng.bitsI Go.BinOp.and Go.IntKind.u64 (Go.Eng.shrI Go.IntKind.u64 (Nat.cast x_0 : Int) (52 : Int)) (2047 : Int)) = (2047 : Int)))
    (
    cond (decide (@Ne Int (Go.Eng.shlI Go.IntKind.u64 (Nat.cast x_0 : Int) (12 : Int)) (0 : Int)))
      (
      some ((1 : Int), (false, ())))
      (
      cond (decide ((Go.Eng.bitsI Go.BinOp.and Go.IntKind.u64 (Go.Eng.shrI Go.IntKind.u64 (Nat.cast x_0 : Int) (52 : Int)) (2047 : Int)) = (2047 : Int)))
        (
        some ((2 : Int), ((decide ((Go.Eng.shrI Go.IntKind.u64 (Nat.cast x_0 : Int) (63 : Int)) = (1 : Int))), ())))
        (
        cond (decide ((Go.Eng.bitsI Go.BinOp.and Go.IntKind.u64 (Go.Eng.shrI Go.IntKind.u64 (Nat.cast x_0 : Int) (52 : Int)) (2047 : Int)) = (0 : Int)))
          (
          cond (decide ((Go.Eng.shlI Go.IntKind.u64 (Nat.cast x_0 : Int) (12 : Int)) = (0 : Int)))
            (
            some ((3 : Int), ((decide ((Go.Eng.shrI Go.IntKind.u64 (Nat.cast x_0 : Int) (63 : Int)) = (1 : Int))), ())))
            (
            cond (decide ((Go.Eng.bitsI Go.BinOp.and Go.IntKind.u64 (Go.Eng.shrI Go.IntKind.u64 (Nat.cast x_0 : Int) (52 : Int)) (2047 : Int)) = (0 : Int)))
              (
              some ((4 : Int), ((decide ((Go.Eng.shrI Go.IntKind.u64 (Nat.cast x_0 : Int) (63 : Int)) = (1 : Int))), ())))
              (
              some ((5 : Int), ((decide ((Go.Eng.shrI Go.IntKind.u64 (Nat.cast x_0 : Int) (63 : Int)) = (1 : Int))), ())))))
          (
          cond (decide ((Go.Eng.bitsI Go.BinOp.and Go.IntKind.u64 (Go.Eng.shrI Go.IntKind.u64 (Nat.cast x_0 : Int) (52 : Int)) (2047 : Int)) = (0 : Int)))
            (
            some ((4 : Int), ((decide ((Go.Eng.shrI Go.IntKind.u64 (Nat.cast x_0 : Int) (63 : Int)) = (1 : Int))), ())))
            (
            some ((5 : Int), ((decide ((Go.Eng.shrI Go.IntKind.u64 (Nat.cast x_0 : Int) (63 : Int)) = (1 : Int))), ())))))))
    (
    cond (decide ((Go.Eng.bitsI Go.BinOp.and Go.IntKind.u64 (Go.Eng.shrI Go.IntKind.u64 (Nat.cast x_0 : Int) (52 : Int)) (2047 : Int)) = (2047 : Int)))
      (
      some ((2 : Int), ((decide ((Go.Eng.shrI Go.IntKind.u64 (Nat.cast x_0 : Int) (63 : Int)) = (1 : Int))), ())))
      (
      cond (decide ((Go.Eng.bitsI Go.BinOp.and Go.IntKind.u64 (Go.Eng.shrI Go.IntKind.u64 (Nat.cast x_0 : Int) (52 : Int)) (2047 : Int)) = (0 : Int)))
        (
        cond (decide ((Go.Eng.shlI Go.IntKind.u64 (Nat.cast x_0 : Int) (12 : Int)) = (0 : Int)))
          (
          some ((3 : Int), ((decide ((Go.Eng.shrI Go.IntKind.u64 (Nat.cast x_0 : Int) (63 : Int)) = (1 : Int))), ())))
          (
          cond (decide ((Go.Eng.bitsI Go.BinOp.and Go.IntKind.u64 (Go.Eng.shrI Go.IntKind.u64 (Nat.cast x_0 : Int) (52 : Int)) (2047 : Int)) = (0 : Int)))
            (
            some ((4 : Int), ((decide ((Go.Eng.shrI Go.IntKind.u64 (Nat.cast x_0 : Int) (63 : Int)) = (1 : Int))), ())))
            (
            some ((5 : Int), ((decide ((Go.Eng.shrI Go.IntKind.u64 (Nat.cast x_0 : Int) (63 : Int)) = (1 : Int))), ())))))
        (
        cond (decide ((Go.Eng.bitsI Go.BinOp.and Go.IntKind.u64 (Go.Eng.shrI Go.IntKind.u64 (Nat.cast x_0 : Int) (52 : Int)) (2047 : Int)) = (0 : Int)))
          (
          some ((4 : Int), ((decide ((Go.Eng.shrI Go.IntKind.u64 (Nat.cast x_0 : Int) (63 : Int)) = (1 : Int))), ())))
          (
          some ((5 : Int), ((decide ((Go.Eng.shrI Go.IntKind.u64 (Nat.cast x_0 : Int) (63 : Int)) = (1 : Int))), ()))))))

abbrev c_lodgeref3_Kind (N : Nat) : CallSpec := ⟨64, ps_lodgeref3_Kind, rs_lodgeref3_Kind, fun x => F_lodgeref3_Kind N x.1⟩

theorem cs_lodgeref3_Kind_ok (S : Nat → Addr) (N : Nat) : CallsOK Go.Proofs.Tryd.prog E S (cs_lodgeref3_Kind N) :=
  .nil
theorem F_lodgeref3_Kind_ok (S : Nat → Addr) (N : Nat) : ∀ x y, (c_lodgeref3_Kind N).g x = some y → FCon Go.Proofs.Tryd.prog E S 64 ps_lodgeref3_Kind rs_lodgeref3_Kind x y := by
  intro x y h
  exact fun_spec E_ok mixed (cs_lodgeref3_Kind_ok S N) (f := 64) (fi := ⟨b_lodgeref3_Kind, 42, Go.Proofs.Tryd.f64.results.toList⟩) (by kernel_rfl) (ls := []) (.nil) (by kernel_rfl) (ps := ps_lodgeref3_Kind) (rs := rs_lodgeref3_Kind) (Eq.trans (b := F_lodgeref3_Kind N x.1) (by kernel_rfl) h)

/-! lodge/lodgeref3.finite -/

abbrev ps_lodgeref3_finite : List Ty := [.flt]
abbrev rs_lodgeref3_finite : List Slot := [.data .bool]
abbrev cs_lodgeref3_finite (N : Nat) : List CallSpec := [c_lodgeref3_Kind N]
noncomputable abbrev b_lodgeref3_finite : Code := (Go.Proofs.Tryd.f32.body).getD .skip

def F_lodgeref3_finite (N : Nat) (x_0 : Nat) : Option (Bool × Unit) :=
  Option.bind (F_lodgeref3_Kind N x_0) fun y0 =>
  some ((decide ((3 : Int) ≤ (y0).1)), ())

abbrev c_lodgeref3_finite (N : Nat) : CallSpec := ⟨32, ps_lodgeref3_finite, rs_lodgeref3_finite, fun x => F_lodgeref3_finite N x.1⟩

theorem cs_lodgeref3_finite_ok (S : Nat → Addr) (N : Nat) : CallsOK Go.Proofs.Tryd.prog E S (cs_lodgeref3_finite N) :=
  .cons (F_lodgeref3_Kind_ok S N) (.nil)
theorem F_lodgeref3_finite_ok (S : Nat → Addr) (N : Nat) : ∀ x y, (c_lodgeref3_finite N).g x = some y → FCon Go.Proofs.Tryd.prog E S 32 ps_lodgeref3_finite rs_lodgeref3_finite x y := by
  intro x y h
  exact fun_spec E_ok mixed (cs_lodgeref3_finite_ok S N) (f := 32) (fi := ⟨b_lodgeref3_finite, 12, Go.Proofs.Tryd.f32.results.toList⟩) (by kernel_rfl) (ls := []) (.nil) (by kernel_rfl) (ps := ps_lodgeref3_finite) (rs := rs_lodgeref3_finite) (Eq.trans (b := F_lodgeref3_finite N x.1) (by kernel_rfl) h)

/-! lodge/lodgeref.Ints -/

abbrev ps_lodgeref_Ints : List Ty := [(.sl (.int .i64))]
abbrev rs_lodgeref_Ints : List Slot := [.sl (.int .i64)]
abbrev cs_lodgeref_Ints (N : Nat) : List CallSpec := []
noncomputable abbrev b_lodgeref_Ints : Code := (Go.Proofs.Tryd.f38.body).getD .skip

abbrev h_lodgeref_Ints_0 : List Slot := [.data (.sl (.int .i64)), .dead, .dead, .sl (.int .i64), .data (.int .i64), .dead, .dead, .dead, .dead, .dead, .dead, .dead, .dead, .dead, .dead, .dead, .dead, .dead, .dead, .dead, .dead, .dead]
abbrev e_lodgeref_Ints_0 : List (AX × List Slot) := [(AX.exit 0, [.dead, .dead, .dead, .sl (.int .i64), .dead, .dead, .dead, .dead, .dead, .dead, .dead, .dead, .dead, .dead, .dead, .dead, .dead, .dead, .dead, .dead, .dead, .dead])]
def g_lodgeref_Ints_0 (N : Nat) : Nat → List Int → List Int → Int → Option (List Int × Unit)
  | 0, _, _, _ => none
  | n + 1, l_0, out_3, i_4 =>
    cond (decide (i_4 < (Nat.cast (List.length l_0) : Int)))
      (
      cond (decide ((0 : Int) ≤ i_4))
        (
        cond (decide ((Int.toNat i_4) < (List.length l_0)))
          (
          cond (decide (((0 : Nat) + (List.length out_3)) = (List.length out_3)))
            (
            cond (decide ((((List.length out_3) + 1) * (8 + (1 : Nat))) ≤ Go.Eng.most))
              (
              cond (decide (((List.length out_3) + 1) = (List.length ((List.take (List.length out_3) out_3) ++ ((List.getD l_0 (Int.toNat i_4) (0 : Int)) :: ([] : List Int))))))
                (
                (g_lodgeref_Ints_0 N n l_0 ((List.take (List.length out_3) out_3) ++ ((List.getD l_0 (Int.toNat i_4) (0 : Int)) :: ([] : List Int))) (wi64 (i_4 + (1 : Int)))))
                (
                none))
              (
              none))
            (
            none))
          (
          none))
        (
        none))
      (
      cond (decide ((List.length out_3) = (List.length out_3)))
        (
        some (out_3, ()))
        (
        none))

def F_lodgeref_Ints (N : Nat) (l_0 : List Int) : Option (List Int × Unit) :=
  cond (decide (((Nat.cast (List.length l_0) : Int) * ((Nat.cast 8 : Int) + (1 : Int))) ≤ (Nat.cast Go.Eng.most : Int)))
    (
    Option.bind (g_lodgeref_Ints_0 N N l_0 (List.replicate 0 (0 : Int)) (0 : Int)) fun y0 =>
    cond (decide ((List.length (y0).1) = (List.length (y0).1)))
      (
      some y0)
      (
      none))
    (
    none)

abbrev c_lodgeref_Ints (N : Nat) : CallSpec := ⟨38, ps_lodgeref_Ints, rs_lodgeref_Ints, fun x => F_lodgeref_Ints N x.1⟩
abbrev l_lodgeref_Ints_0 (N : Nat) : LoopSpec := ⟨0, h_lodgeref_Ints_0, e_lodgeref_Ints_0, fun x => g_lodgeref_Ints_0 N N x.1 x.2.1 x.2.2.1⟩

theorem cs_lodgeref_Ints_ok (S : Nat → Addr) (N : Nat) : CallsOK Go.Proofs.Tryd.prog E S (cs_lodgeref_Ints N) :=
  .nil
noncomputable abbrev b_lodgeref_Ints_0 : Code := (loopsOf b_lodgeref_Ints).getD 0 .skip
theorem g_lodgeref_Ints_0_ok (S : Nat → Addr) (N : Nat) : ∀ n x y, (fun (x : Val (slotsTy h_lodgeref_Ints_0)) => g_lodgeref_Ints_0 N n x.1 x.2.1 x.2.2.1) x = some y → LoopCon Go.Proofs.Tryd.prog E S b_lodgeref_Ints_0 (encSlots h_lodgeref_Ints_0 x) (encEx e_lodgeref_Ints_0 y).1 (encEx e_lodgeref_Ints_0 y).2 :=
  loop_spec E_ok mixed (cs_lodgeref_Ints_ok S N) (all := loopsOf b_lodgeref_Ints) (ls := []) (.nil) (i := 0) (by kernel_rfl) (inner_of (by kernel_rfl)) (head := h_lodgeref_Ints_0) (ex := e_lodgeref_Ints_0) (fun n (x : Val (slotsTy h_lodgeref_Ints_0)) => g_lodgeref_Ints_0 N n x.1 x.2.1 x.2.2.1) (fun _ => rfl) (fun n x => by kernel_rfl)
theorem F_lodgeref_Ints_ok (S : Nat → Addr) (N : Nat) : ∀ x y, (c_lodgeref_Ints N).g x = some y → FCon Go.Proofs.Tryd.prog E S 38 ps_lodgeref_Ints rs_lodgeref_Ints x y := by
  intro x y h
  exact fun_spec E_ok mixed (cs_lodgeref_Ints_ok S N) (f := 38) (fi := ⟨b_lodgeref_Ints, 22, Go.Proofs.Tryd.f38.results.toList⟩) (by kernel_rfl) (ls := [l_lodgeref_Ints_0 N]) (.cons (by kernel_rfl) (g_lodgeref_Ints_0_ok S N N) (.nil)) (by kernel_rfl) (ps := ps_lodgeref_Ints) (rs := rs_lodgeref_Ints) (Eq.trans (b := F_lodgeref_Ints N x.1) (by kernel_rfl) h)

/-! lodge/lodgeref.Desc -/

abbrev ps_lodgeref_Desc : List Ty := [(.st (.pair (.sl (.int .i64)) .bool))]
abbrev rs_lodgeref_Desc : List Slot := [.ag [.sl (.int .i64), .d .bool]]
abbrev cs_lodgeref_Desc (N : Nat) : List CallSpec := [c_lodgeref_Ints N]
noncomputable abbrev b_lodgeref_Desc : Code := (Go.Proofs.Tryd.f37.body).getD .skip

def F_lodgeref_Desc (N : Nat) (a_0 : (List Int × Bool)) : Option ((List Int × (Bool × Unit)) × Unit) :=
  Option.bind (F_lodgeref_Ints N (a_0).1) fun y0 =>
  cond (decide ((List.length (y0).1) = (List.length (y0).1)))
    (
    some (((y0).1, ((a_0).2, ())), ()))
    (
    none)

abbrev c_lodgeref_Desc (N : Nat) : CallSpec := ⟨37, ps_lodgeref_Desc, rs_lodgeref_Desc, fun x => F_lodgeref_Desc N x.1⟩

theorem cs_lodgeref_Desc_ok (S : Nat → Addr) (N : Nat) : CallsOK Go.Proofs.Tryd.prog E S (cs_lodgeref_Desc N) :=
  .cons (F_lodgeref_Ints_ok S N) (.nil)
theorem F_lodgeref_Desc_ok (S : Nat → Addr) (N : Nat) : ∀ x y, (c_lodgeref_Desc N).g x = some y → FCon Go.Proofs.Tryd.prog E S 37 ps_lodgeref_Desc rs_lodgeref_Desc x y := by
  intro x y h
  exact fun_spec E_ok mixed (cs_lodgeref_Desc_ok S N) (f := 37) (fi := ⟨b_lodgeref_Desc, 9, Go.Proofs.Tryd.f37.results.toList⟩) (by kernel_rfl) (ls := []) (.nil) (by kernel_rfl) (ps := ps_lodgeref_Desc) (rs := rs_lodgeref_Desc) (Eq.trans (b := F_lodgeref_Desc N x.1) (by kernel_rfl) h)

/-! lodge/lodgeref3.ValidDesc -/

abbrev ps_lodgeref3_ValidDesc : List Ty := [(.st (.pair (.sl (.int .i64)) .bool))]
abbrev rs_lodgeref3_ValidDesc : List Slot := [.data (.int .i64)]
abbrev cs_lodgeref3_ValidDesc (N : Nat) : List CallSpec := []
noncomputable abbrev b_lodgeref3_ValidDesc : Code := (Go.Proofs.Tryd.f73.body).getD .skip

abbrev h_lodgeref3_ValidDesc_0 : List Slot := [.dead, .box [.d (.st (.pair (.sl (.int .i64)) .bool))], .dead, .data (.int .i64), .data (.int .i64), .dead, .dead, .dead, .dead, .dead, .dead, .dead, .dead, .dead, .dead, .dead, .dead, .dead, .dead, .dead, .dead, .dead, .dead, .dead, .dead, .dead, .dead, .dead, .dead, .dead, .dead, .dead, .dead, .dead, .dead, .dead, .dead, .dead, .dead]
abbrev e_lodgeref3_ValidDesc_0 : List (AX × List Slot) := [(AX.exit 0, [.dead, .dead, .dead, .data (.int .i64), .dead, .dead, .dead, .dead, .dead, .dead, .dead, .dead, .dead, .dead, .dead, .dead, .dead, .dead, .dead, .dead, .dead, .dead, .dead, .dead, .dead, .dead, .dead, .dead, .dead, .dead, .dead, .dead, .dead, .dead, .dead, .dead, .dead, .dead, .dead]), (AX.ret, [.dead, .dead, .data (.int .i64), .dead, .dead, .dead, .dead, .dead, .dead, .dead, .dead, .dead, .dead, .dead, .dead, .dead, .dead, .dead, .dead, .dead, .dead, .dead, .dead, .dead, .dead, .dead, .dead, .dead, .dead, .dead, .dead, .dead, .dead, .dead, .dead, .dead, .dead, .dead, .dead])]
def g_lodgeref3_ValidDesc_0 (N : Nat) : Nat → ((List Int × Bool) × Unit) → Int → Int → Option (Sum (Int × Unit) (Int × Unit))
  | 0, _, _, _ => none
  | n + 1, d_1, n_3, i_4 =>
    cond (decide (i_4 < (Nat.cast (List.length ((d_1).1).1) : Int)))
      (
      cond (decide ((0 : Int) ≤ i_4))
        (
        cond (decide ((Int.toNat i_4) < (List.length ((d_1).1).1)))
          (
          cond (decide ((List.getD ((d_1).1).1 (Int.toNat i_4) (0 : Int)) < (1 : Int)))
            (
            some (Sum.inr ((102 : Int), ())))
            (
            cond (decide ((0 : Int) ≤ i_4))
              (
              cond (decide ((Int.toNat i_4) < (List.length ((d_1).1).1)))
                (
                cond (decide ((256 : Int) < (List.getD ((d_1).1).1 (Int.toNat i_4) (0 : Int))))
                  (
                  some (Sum.inr ((102 : Int), ())))
                  (
                  cond (decide ((0 : Int) ≤ i_4))
                    (
                    cond (decide ((Int.toNat i_4) < (List.length ((d_1).1).1)))
                      (
                      (g_lodgeref3_ValidDesc_0 N n d_1 (wi64 (n_3 * (List.getD ((d_1).1).1 (Int.toNat i_4) (0 : Int)))) (wi64 (i_4 + (1 : Int)))))
                      (
                      none))
                    (
                    none)))
                (
                none))
              (
              none)))
          (
          none))
        (
        none))
      (
      some (Sum.inl (n_3, ())))

def F_lodgeref3_ValidDesc (N : Nat) (d_0 : (List Int × Bool)) : Option (Int × Unit) :=
  cond (decide ((4 : Int) < (Nat.cast (List.length (d_0).1) : Int)))
    (
    some ((104 : Int), ()))
    (
    Option.bind (g_lodgeref3_ValidDesc_0 N N (d_0, ()) (1 : Int) (0 : Int)) fun y0 =>
    Sum.elim (fun y1 =>
      cond (decide ((16384 : Int) < (y1).1))
        (
        some ((104 : Int), ()))
        (
        some ((0 : Int), ())))
      (fun y2 =>
      some y2) y0)

abbrev c_lodgeref3_ValidDesc (N : Nat) : CallSpec := ⟨73, ps_lodgeref3_ValidDesc, rs_lodgeref3_ValidDesc, fun x => F_lodgeref3_ValidDesc N x.1⟩
abbrev l_lodgeref3_ValidDesc_0 (N : Nat) : LoopSpec := ⟨0, h_lodgeref3_ValidDesc_0, e_lodgeref3_ValidDesc_0, fun x => g_lodgeref3_ValidDesc_0 N N x.1 x.2.1 x.2.2.1⟩

theorem cs_lodgeref3_ValidDesc_ok (S : Nat → Addr) (N : Nat) : CallsOK Go.Proofs.Tryd.prog E S (cs_lodgeref3_ValidDesc N) :=
  .nil
noncomputable abbrev b_lodgeref3_ValidDesc_0 : Code := (loopsOf b_lodgeref3_ValidDesc).getD 0 .skip
theorem g_lodgeref3_ValidDesc_0_ok (S : Nat → Addr) (N : Nat) : ∀ n x y, (fun (x : Val (slotsTy h_lodgeref3_ValidDesc_0)) => g_lodgeref3_ValidDesc_0 N n x.1 x.2.1 x.2.2.1) x = some y → LoopCon Go.Proofs.Tryd.prog E S b_lodgeref3_ValidDesc_0 (encSlots h_lodgeref3_ValidDesc_0 x) (encEx e_lodgeref3_ValidDesc_0 y).1 (encEx e_lodgeref3_ValidDesc_0 y).2 :=
  loop_spec E_ok mixed (cs_lodgeref3_ValidDesc_ok S N) (all := loopsOf b_lodgeref3_ValidDesc) (ls := []) (.nil) (i := 0) (by kernel_rfl) (inner_of (by kernel_rfl)) (head := h_lodgeref3_ValidDesc_0) (ex := e_lodgeref3_ValidDesc_0) (fun n (x : Val (slotsTy h_lodgeref3_ValidDesc_0)) => g_lodgeref3_ValidDesc_0 N n x.1 x.2.1 x.2.2.1) (fun _ => rfl) (fun n x => by kernel_rfl)
theorem F_lodgeref3_ValidDesc_ok (S : Nat → Addr) (N : Nat) : ∀ x y, (c_lodgeref3_ValidDesc N).g x = some y → FCon Go.Proofs.Tryd.prog E S 73 ps_lodgeref3_ValidDesc rs_lodgeref3_ValidDesc x y := by
  intro x y h
  exact fun_spec E_ok mixed (cs_lodgeref3_ValidDesc_ok S N) (f := 73) (fi := ⟨b_lodgeref3_ValidDesc, 39, Go.Proofs.Tryd.f73.results.toList⟩) (by kernel_rfl) (ls := [l_lodgeref3_ValidDesc_0 N]) (.cons (by kernel_rfl) (g_lodgeref3_ValidDesc_0_ok S N N) (.nil)) (by kernel_rfl) (ps := ps_lodgeref3_ValidDesc) (rs := rs_lodgeref3_ValidDesc) (Eq.trans (b := F_lodgeref3_ValidDesc N x.1) (by kernel_rfl) h)

/-! lodge/lodgeref3.Elems -/

abbrev ps_lodgeref3_Elems : List Ty := [(.sl (.int .i64))]
abbrev rs_lodgeref3_Elems : List Slot := [.data (.int .i64)]
abbrev cs_lodgeref3_Elems (N : Nat) : List CallSpec := [c_lodgeref3_ValidDesc N]
noncomputable abbrev b_lodgeref3_Elems : Code := (Go.Proofs.Tryd.f56.body).getD .skip

abbrev h_lodgeref3_Elems_0 : List Slot := [.data (.sl (.int .i64)), .dead, .dead, .data (.int .i64), .data (.int .i64), .dead, .dead, .dead, .dead, .dead, .dead, .dead, .dead, .dead, .dead, .dead, .dead, .dead, .dead, .dead, .dead, .dead]
abbrev e_lodgeref3_Elems_0 : List (AX × List Slot) := [(AX.exit 0, [.dead, .dead, .dead, .data (.int .i64), .dead, .dead, .dead, .dead, .dead, .dead, .dead, .dead, .dead, .dead, .dead, .dead, .dead, .dead, .dead, .dead, .dead, .dead])]
def g_lodgeref3_Elems_0 (N : Nat) : Nat → List Int → Int → Int → Option (Int × Unit)
  | 0, _, _, _ => none
  | n + 1, shape_0, n_3, i_4 =>
    cond (decide (i_4 < (Nat.cast (List.length shape_0) : Int)))
      (
      cond (decide ((0 : Int) ≤ i_4))
        (
        cond (decide ((Int.toNat i_4) < (List.length shape_0)))
          (
          (g_lodgeref3_Elems_0 N n shape_0 (wi64 (n_3 * (List.getD shape_0 (Int.toNat i_4) (0 : Int)))) (wi64 (i_4 + (1 : Int)))))
          (
          none))
        (
        none))
      (
      some (n_3, ()))

def F_lodgeref3_Elems (N : Nat) (shape_0 : List Int) : Option (Int × Unit) :=
  Option.bind (F_lodgeref3_ValidDesc N (shape_0, false)) fun y0 =>
  cond (decide (@Ne Int (y0).1 (0 : Int)))
    (
    some ((0 : Int), ()))
    (
    Option.bind (g_lodgeref3_Elems_0 N N shape_0 (1 : Int) (0 : Int)) fun y1 =>
    some y1)

abbrev c_lodgeref3_Elems (N : Nat) : CallSpec := ⟨56, ps_lodgeref3_Elems, rs_lodgeref3_Elems, fun x => F_lodgeref3_Elems N x.1⟩
abbrev l_lodgeref3_Elems_0 (N : Nat) : LoopSpec := ⟨0, h_lodgeref3_Elems_0, e_lodgeref3_Elems_0, fun x => g_lodgeref3_Elems_0 N N x.1 x.2.1 x.2.2.1⟩

theorem cs_lodgeref3_Elems_ok (S : Nat → Addr) (N : Nat) : CallsOK Go.Proofs.Tryd.prog E S (cs_lodgeref3_Elems N) :=
  .cons (F_lodgeref3_ValidDesc_ok S N) (.nil)
noncomputable abbrev b_lodgeref3_Elems_0 : Code := (loopsOf b_lodgeref3_Elems).getD 0 .skip
theorem g_lodgeref3_Elems_0_ok (S : Nat → Addr) (N : Nat) : ∀ n x y, (fun (x : Val (slotsTy h_lodgeref3_Elems_0)) => g_lodgeref3_Elems_0 N n x.1 x.2.1 x.2.2.1) x = some y → LoopCon Go.Proofs.Tryd.prog E S b_lodgeref3_Elems_0 (encSlots h_lodgeref3_Elems_0 x) (encEx e_lodgeref3_Elems_0 y).1 (encEx e_lodgeref3_Elems_0 y).2 :=
  loop_spec E_ok mixed (cs_lodgeref3_Elems_ok S N) (all := loopsOf b_lodgeref3_Elems) (ls := []) (.nil) (i := 0) (by kernel_rfl) (inner_of (by kernel_rfl)) (head := h_lodgeref3_Elems_0) (ex := e_lodgeref3_Elems_0) (fun n (x : Val (slotsTy h_lodgeref3_Elems_0)) => g_lodgeref3_Elems_0 N n x.1 x.2.1 x.2.2.1) (fun _ => rfl) (fun n x => by kernel_rfl)
theorem F_lodgeref3_Elems_ok (S : Nat → Addr) (N : Nat) : ∀ x y, (c_lodgeref3_Elems N).g x = some y → FCon Go.Proofs.Tryd.prog E S 56 ps_lodgeref3_Elems rs_lodgeref3_Elems x y := by
  intro x y h
  exact fun_spec E_ok mixed (cs_lodgeref3_Elems_ok S N) (f := 56) (fi := ⟨b_lodgeref3_Elems, 22, Go.Proofs.Tryd.f56.results.toList⟩) (by kernel_rfl) (ls := [l_lodgeref3_Elems_0 N]) (.cons (by kernel_rfl) (g_lodgeref3_Elems_0_ok S N N) (.nil)) (by kernel_rfl) (ps := ps_lodgeref3_Elems) (rs := rs_lodgeref3_Elems) (Eq.trans (b := F_lodgeref3_Elems N x.1) (by kernel_rfl) h)

/-! lodge/lodgeref3.Zero -/

abbrev ps_lodgeref3_Zero : List Ty := [(.st (.pair (.sl (.int .i64)) .bool))]
abbrev rs_lodgeref3_Zero : List Slot := [.ag [.sl (.int .i64), .d .bool, .sl (.int .i64)]]
abbrev cs_lodgeref3_Zero (N : Nat) : List CallSpec := [c_lodgeref_Desc N, c_lodgeref3_Elems N]
noncomputable abbrev b_lodgeref3_Zero : Code := (Go.Proofs.Tryd.f33.body).getD .skip

def F_lodgeref3_Zero (N : Nat) (d_0 : (List Int × Bool)) : Option ((List Int × (Bool × (List Int × Unit))) × Unit) :=
  Option.bind (F_lodgeref_Desc N d_0) fun y0 =>
  Option.bind (F_lodgeref3_Elems N (d_0).1) fun y1 =>
  cond (decide ((0 : Int) ≤ (y1).1))
    (
    cond (decide ((y1).1 ≤ (y1).1))
      (
      cond (decide (((y1).1 * ((Nat.cast 8 : Int) + (1 : Int))) ≤ (Nat.cast Go.Eng.most : Int)))
        (
        cond (decide ((List.length ((y0).1).1) = (List.length ((y0).1).1)))
          (
          cond (decide ((Int.toNat (y1).1) = (List.length (List.replicate (Int.toNat (y1).1) (0 : Int)))))
            (
            some ((((y0).1).1, ((((y0).1).2).1, ((List.replicate (Int.toNat (y1).1) (0 : Int)), ()))), ()))
            (
            none))
          (
          none))
        (
        none))
      (
      none))
    (
    none)

abbrev c_lodgeref3_Zero (N : Nat) : CallSpec := ⟨33, ps_lodgeref3_Zero, rs_lodgeref3_Zero, fun x => F_lodgeref3_Zero N x.1⟩

theorem cs_lodgeref3_Zero_ok (S : Nat → Addr) (N : Nat) : CallsOK Go.Proofs.Tryd.prog E S (cs_lodgeref3_Zero N) :=
  .cons (F_lodgeref_Desc_ok S N) (.cons (F_lodgeref3_Elems_ok S N) (.nil))
theorem F_lodgeref3_Zero_ok (S : Nat → Addr) (N : Nat) : ∀ x y, (c_lodgeref3_Zero N).g x = some y → FCon Go.Proofs.Tryd.prog E S 33 ps_lodgeref3_Zero rs_lodgeref3_Zero x y := by
  intro x y h
  exact fun_spec E_ok mixed (cs_lodgeref3_Zero_ok S N) (f := 33) (fi := ⟨b_lodgeref3_Zero, 10, Go.Proofs.Tryd.f33.results.toList⟩) (by kernel_rfl) (ls := []) (.nil) (by kernel_rfl) (ps := ps_lodgeref3_Zero) (rs := rs_lodgeref3_Zero) (Eq.trans (b := F_lodgeref3_Zero N x.1) (by kernel_rfl) h)

/-! lodge/lodgeref3.nan -/

abbrev ps_lodgeref3_nan : List Ty := [.flt]
abbrev rs_lodgeref3_nan : List Slot := [.data .bool]
abbrev cs_lodgeref3_nan (N : Nat) : List CallSpec := [c_lodgeref3_Kind N]
noncomputable abbrev b_lodgeref3_nan : Code := (Go.Proofs.Tryd.f65.body).getD .skip

def F_lodgeref3_nan (N : Nat) (x_0 : Nat) : Option (Bool × Unit) :=
  Option.bind (F_lodgeref3_Kind N x_0) fun y0 =>
  some ((decide ((y0).1 = (1 : Int))), ())

abbrev c_lodgeref3_nan (N : Nat) : CallSpec := ⟨65, ps_lodgeref3_nan, rs_lodgeref3_nan, fun x => F_lodgeref3_nan N x.1⟩

theorem cs_lodgeref3_nan_ok (S : Nat → Addr) (N : Nat) : CallsOK Go.Proofs.Tryd.prog E S (cs_lodgeref3_nan N) :=
  .cons (F_lodgeref3_Kind_ok S N) (.nil)
theorem F_lodgeref3_nan_ok (S : Nat → Addr) (N : Nat) : ∀ x y, (c_lodgeref3_nan N).g x = some y → FCon Go.Proofs.Tryd.prog E S 65 ps_lodgeref3_nan rs_lodgeref3_nan x y := by
  intro x y h
  exact fun_spec E_ok mixed (cs_lodgeref3_nan_ok S N) (f := 65) (fi := ⟨b_lodgeref3_nan, 12, Go.Proofs.Tryd.f65.results.toList⟩) (by kernel_rfl) (ls := []) (.nil) (by kernel_rfl) (ps := ps_lodgeref3_nan) (rs := rs_lodgeref3_nan) (Eq.trans (b := F_lodgeref3_nan N x.1) (by kernel_rfl) h)

/-! lodge/lodgeref3.Cut -/

abbrev ps_lodgeref3_Cut : List Ty := [(.int .i64), (.int .i64), (.int .i64)]
abbrev rs_lodgeref3_Cut : List Slot := [.data (.int .i64)]
abbrev cs_lodgeref3_Cut (N : Nat) : List CallSpec := []
noncomputable abbrev b_lodgeref3_Cut : Code := (Go.Proofs.Tryd.f66.body).getD .skip

def F_lodgeref3_Cut (N : Nat) (n_0 : Int) (from_1 : Int) (to_2 : Int) : Option (Int × Unit) :=
  cond (decide (n_0 < from_1))
    (
    some (from_1, ()))
    (
    cond (decide (to_2 < n_0))
      (
      some (to_2, ()))
      (
      some (n_0, ())))

abbrev c_lodgeref3_Cut (N : Nat) : CallSpec := ⟨66, ps_lodgeref3_Cut, rs_lodgeref3_Cut, fun x => F_lodgeref3_Cut N x.1 x.2.1 x.2.2.1⟩

theorem cs_lodgeref3_Cut_ok (S : Nat → Addr) (N : Nat) : CallsOK Go.Proofs.Tryd.prog E S (cs_lodgeref3_Cut N) :=
  .nil
theorem F_lodgeref3_Cut_ok (S : Nat → Addr) (N : Nat) : ∀ x y, (c_lodgeref3_Cut N).g x = some y → FCon Go.Proofs.Tryd.prog E S 66 ps_lodgeref3_Cut rs_lodgeref3_Cut x y := by
  intro x y h
  exact fun_spec E_ok mixed (cs_lodgeref3_Cut_ok S N) (f := 66) (fi := ⟨b_lodgeref3_Cut, 16, Go.Proofs.Tryd.f66.results.toList⟩) (by kernel_rfl) (ls := []) (.nil) (by kernel_rfl) (ps := ps_lodgeref3_Cut) (rs := rs_lodgeref3_Cut) (Eq.trans (b := F_lodgeref3_Cut N x.1 x.2.1 x.2.2.1) (by kernel_rfl) h)

/-! lodge/lodgeref3.Round -/

abbrev ps_lodgeref3_Round : List Ty := [.flt]
abbrev rs_lodgeref3_Round : List Slot := [.data .flt]
abbrev cs_lodgeref3_Round (N : Nat) : List CallSpec := []
noncomputable abbrev b_lodgeref3_Round : Code := (Go.Proofs.Tryd.f67.body).getD .skip

def F_lodgeref3_Round (N : Nat) (x_0 : Nat) : Option (Nat × Unit) :=
  cond (decide ((1075 : Int) ≤ (wi64 (Go.Eng.bitsI Go.BinOp.and Go.IntKind.u64 (Go.Eng.shrI Go.IntKind.u64 (Nat.cast x_0 : Int) (52 : Int)) (2047 : Int)))))
    (
    some (x_0, ()))
    (
    cond (decide ((wi64 (Go.Eng.bitsI Go.BinOp.and Go.IntKind.u64 (Go.Eng.shrI Go.IntKind.u64 (Nat.cast x_0 : Int) (52 : Int)) (2047 : Int))) < (1022 : Int)))
      (
      some ((Int.toNat (Go.Eng.shlI Go.IntKind.u64 (Go.Eng.shrI Go.IntKind.u64 (Nat.cast x_0 : Int) (63 : Int)) (63 : Int))), ()))
      (
      cond (decide ((wi64 (Go.Eng.bitsI Go.BinOp.and Go.IntKind.u64 (Go.Eng.shrI Go.IntKind.u64 (Nat.cast x_0 : Int) (52 : Int)) (2047 : Int))) = (1022 : Int)))
        (
        cond (decide ((Go.Eng.shlI Go.IntKind.u64 (Nat.cast x_0 : Int) (12 : Int)) = (0 : Int)))
          (
          some ((Int.toNat (Go.Eng.shlI Go.IntKind.u64 (Go.Eng.shrI Go.IntKind.u64 (Nat.cast x_0 : Int) (63 : Int)) (63 : Int))), ()))
          (
          some ((Int.toNat (Go.Eng.bitsI Go.BinOp.or Go.IntKind.u64 (Go.Eng.shlI Go.IntKind.u64 (Go.Eng.shrI Go.IntKind.u64 (Nat.cast x_0 : Int) (63 : Int)) (63 : Int)) (4607182418800017408 : Int))), ())))
        (
        cond (decide ((0 : Int) ≤ (wu64 (wi64 ((1075 : Int) - (wi64 (Go.Eng.bitsI Go.BinOp.and Go.IntKind.u64 (Go.Eng.shrI Go.IntKind.u64 (Nat.cast x_0 : Int) (52 : Int)) (2047 : Int))))))))
          (
          cond (decide ((0 : Int) ≤ (wu64 ((wu64 (wi64 ((1075 : Int) - (wi64 (Go.Eng.bitsI Go.BinOp.and Go.IntKind.u64 (Go.Eng.shrI Go.IntKind.u64 (Nat.cast x_0 : Int) (52 : Int)) (2047 : Int)))))) - (1 : Int)))))
            (
            cond (decide ((Go.Eng.shlI Go.IntKind.u64 (1 : Int) (wu64 ((wu64 (wi64 ((1075 : Int) - (wi64 (Go.Eng.bitsI Go.BinOp.and Go.IntKind.u64 (Go.Eng.shrI Go.IntKind.u64 (Nat.cast x_0 : Int) (52 : Int)) (2047 : Int)))))) - (1 : Int)))) < (Go.Eng.bitsI Go.BinOp.and Go.IntKind.u64 (Nat.cast x_0 : Int) (wu64 ((Go.Eng.shlI Go.IntKind.u64 (1 : Int) (wu64 (wi64 ((1075 : Int) - (wi64 (Go.Eng.bitsI Go.BinOp.and Go.IntKind.u64 (Go.Eng.shrI Go.IntKind.u64 (Nat.cast x_0 : Int) (52 : Int)) (2047 : Int))))))) - (1 : Int))))))
              (
              cond (decide ((0 : Int) ≤ (wu64 (wi64 ((1075 : Int) - (wi64 (Go.Eng.bitsI Go.BinOp.and Go.IntKind.u64 (Go.Eng.shrI Go.IntKind.u64 (Nat.cast x_0 : Int) (52 : Int)) (2047 : Int))))))))
                (
                some ((Int.toNat (wu64 ((wu64 ((Nat.cast x_0 : Int) - (Go.Eng.bitsI Go.BinOp.and Go.IntKind.u64 (Nat.cast x_0 : Int) (wu64 ((Go.Eng.shlI Go.IntKind.u64 (1 : Int) (wu64 (wi64 ((1075 : Int) - (wi64 (Go.Eng.bitsI Go.BinOp.and Go.IntKind.u64 (Go.Eng.shrI Go.IntKind.u64 (Nat.cast x_0 : Int) (52 : Int)) (2047 : Int))))))) - (1 : Int)))))) + (Go.Eng.shlI Go.IntKind.u64 (1 : Int) (wu64 (wi64 ((1075 : Int) - (wi64 (Go.Eng.bitsI Go.BinOp.and Go.IntKind.u64 (Go.Eng.shrI Go.IntKind.u64 (Nat.cast x_0 : Int) (52 : Int)) (2047 : Int)))))))))), ()))
                (
                none))
              (
              cond (decide ((Go.Eng.bitsI Go.BinOp.and Go.IntKind.u64 (Nat.cast x_0 : Int) (wu64 ((Go.Eng.shlI Go.IntKind.u64 (1 : Int) (wu64 (wi64 ((1075 : Int) - (wi64 (Go.Eng.bitsI Go.BinOp.and Go.IntKind.u64 (Go.Eng.shrI Go.IntKind.u64 (Nat.cast x_0 : Int) (52 : Int)) (2047 : Int))))))) - (1 : Int)))) = (Go.Eng.shlI Go.IntKind.u64 (1 : Int) (wu64 ((wu64 (wi64 ((1075 : Int) - (wi64 (Go.Eng.bitsI Go.BinOp.and Go.IntKind.u64 (Go.Eng.shrI Go.IntKind.u64 (Nat.cast x_0 : Int) (52 : Int)) (2047 : Int)))))) - (1 : Int))))))
                (
                cond (decide ((0 : Int) ≤ (wu64 (wi64 ((1075 : Int) - (wi64 (Go.Eng.bitsI Go.BinOp.and Go.IntKind.u64 (Go.Eng.shrI Go.IntKind.u64 (Nat.cast x_0 : Int) (52 : Int)) (2047 : Int))))))))
                  (
                  cond (decide ((Go.Eng.bitsI Go.BinOp.and Go.IntKind.u64 (Go.Eng.shrI Go.IntKind.u64 (wu64 ((Nat.cast x_0 : Int) - (Go.Eng.bitsI Go.BinOp.and Go.IntKind.u64 (Nat.cast x_0 : Int) (wu64 ((Go.Eng.shlI Go.IntKind.u64 (1 : Int) (wu64 (wi64 ((1075 : Int) - (wi64 (Go.Eng.bitsI Go.BinOp.and Go.IntKind.u64 (Go.Eng.shrI Go.IntKind.u64 (Nat.cast x_0 : Int) (52 : Int)) (2047 : Int))))))) - (1 : Int)))))) (wu64 (wi64 ((1075 : Int) - (wi64 (Go.Eng.bitsI Go.BinOp.and Go.IntKind.u64 (Go.Eng.shrI Go.IntKind.u64 (Nat.cast x_0 : Int) (52 : Int)) (2047 : Int))))))) (1 : Int)) = (1 : Int)))
                    (
                    cond (decide ((0 : Int) ≤ (wu64 (wi64 ((1075 : Int) - (wi64 (Go.Eng.bitsI Go.BinOp.and Go.IntKind.u64 (Go.Eng.shrI Go.IntKind.u64 (Nat.cast x_0 : Int) (52 : Int)) (2047 : Int))))))))
                      (
                      some ((Int.toNat (wu64 ((wu64 ((Nat.cast x_0 : Int) - (Go.Eng.bitsI Go.BinOp.and Go.IntKind.u64 (Nat.cast x_0 : Int) (wu64 ((Go.Eng.shlI Go.IntKind.u64 (1 : Int) (wu64 (wi64 ((1075 : Int) - (wi64 (Go.Eng.bitsI Go.BinOp.and Go.IntKind.u64 (Go.Eng.shrI Go.IntKind.u64 (Nat.cast x_0 : Int) (52 : Int)) (2047 : Int))))))) - (1 : Int)))))) + (Go.Eng.shlI Go.IntKind.u64 (1 : Int) (wu64 (wi64 ((1075 : Int) - (wi64 (Go.Eng.bitsI Go.BinOp.and Go.IntKind.u64 (Go.Eng.shrI Go.IntKind.u64 (Nat.cast x_0 : Int) (52 : Int)) (2047 : Int)))))))))), ()))
                      (
                      none))
                    (
                    some ((Int.toNat (wu64 ((Nat.cast x_0 : Int) - (Go.Eng.bitsI Go.BinOp.and Go.IntKind.u64 (Nat.cast x_0 : Int) (wu64 ((Go.Eng.shlI Go.IntKind.u64 (1 : Int) (wu64 (wi64 ((1075 : Int) - (wi64 (Go.Eng.bitsI Go.BinOp.and Go.IntKind.u64 (Go.Eng.shrI Go.IntKind.u64 (Nat.cast x_0 : Int) (52 : Int)) (2047 : Int))))))) - (1 : Int))))))), ())))
                  (
                  none))
                (
                some ((Int.toNat (wu64 ((Nat.cast x_0 : Int) - (Go.Eng.bitsI Go.BinOp.and Go.IntKind.u64 (Nat.cast x_0 : Int) (wu64 ((Go.Eng.shlI Go.IntKind.u64 (1 : Int) (wu64 (wi64 ((1075 : Int) - (wi64 (Go.Eng.bitsI Go.BinOp.and Go.IntKind.u64 (Go.Eng.shrI Go.IntKind.u64 (Nat.cast x_0 : Int) (52 : Int)) (2047 : Int))))))) - (1 : Int))))))), ()))))
            (
            none))
          (
          none))))

abbrev c_lodgeref3_Round (N : Nat) : CallSpec := ⟨67, ps_lodgeref3_Round, rs_lodgeref3_Round, fun x => F_lodgeref3_Round N x.1⟩

theorem cs_lodgeref3_Round_ok (S : Nat → Addr) (N : Nat) : CallsOK Go.Proofs.Tryd.prog E S (cs_lodgeref3_Round N) :=
  .nil
theorem F_lodgeref3_Round_ok (S : Nat → Addr) (N : Nat) : ∀ x y, (c_lodgeref3_Round N).g x = some y → FCon Go.Proofs.Tryd.prog E S 67 ps_lodgeref3_Round rs_lodgeref3_Round x y := by
  intro x y h
  exact fun_spec E_ok mixed (cs_lodgeref3_Round_ok S N) (f := 67) (fi := ⟨b_lodgeref3_Round, 70, Go.Proofs.Tryd.f67.results.toList⟩) (by kernel_rfl) (ls := []) (.nil) (by kernel_rfl) (ps := ps_lodgeref3_Round) (rs := rs_lodgeref3_Round) (Eq.trans (b := F_lodgeref3_Round N x.1) (by kernel_rfl) h)

/-! lodge/lodgeref3.whole -/

abbrev ps_lodgeref3_whole : List Ty := [.flt, .bool, (.int .i64), (.int .i64)]
abbrev rs_lodgeref3_whole : List Slot := [.data (.int .i64)]
abbrev cs_lodgeref3_whole (N : Nat) : List CallSpec := [c_lodgeref3_Cut N]
noncomputable abbrev b_lodgeref3_whole : Code := (Go.Proofs.Tryd.f68.body).getD .skip

def F_lodgeref3_whole (N : Nat) (r_0 : Nat) (low_1 : Bool) (from_2 : Int) (to_3 : Int) : Option (Int × Unit) :=
  cond low_1
    (
    cond ((Ieee.Format.order (Go.FloatKind.format Go.FloatKind.f64) r_0 (14114281232179134464 : Nat)) == (@Option.some Ordering Ordering.lt))
      (
      some (from_2, ()))
      (
      cond (Go.Eng.ftoiOK Go.IntKind.i64 r_0)
        (
        Option.bind (F_lodgeref3_Cut N (Go.Eng.ftoi r_0) from_2 to_3) fun y0 =>
        some y0)
        (
        none)))
    (
    cond (Bool.or ((Ieee.Format.order (Go.FloatKind.format Go.FloatKind.f64) r_0 (4890909195324358656 : Nat)) == (@Option.some Ordering Ordering.gt)) ((Ieee.Format.order (Go.FloatKind.format Go.FloatKind.f64) r_0 (4890909195324358656 : Nat)) == (@Option.some Ordering Ordering.eq)))
      (
      some (to_3, ()))
      (
      cond (Go.Eng.ftoiOK Go.IntKind.i64 r_0)
        (
        Option.bind (F_lodgeref3_Cut N (Go.Eng.ftoi r_0) from_2 to_3) fun y1 =>
        some y1)
        (
        none)))

abbrev c_lodgeref3_whole (N : Nat) : CallSpec := ⟨68, ps_lodgeref3_whole, rs_lodgeref3_whole, fun x => F_lodgeref3_whole N x.1 x.2.1 x.2.2.1 x.2.2.2.1⟩

theorem cs_lodgeref3_whole_ok (S : Nat → Addr) (N : Nat) : CallsOK Go.Proofs.Tryd.prog E S (cs_lodgeref3_whole N) :=
  .cons (F_lodgeref3_Cut_ok S N) (.nil)
theorem F_lodgeref3_whole_ok (S : Nat → Addr) (N : Nat) : ∀ x y, (c_lodgeref3_whole N).g x = some y → FCon Go.Proofs.Tryd.prog E S 68 ps_lodgeref3_whole rs_lodgeref3_whole x y := by
  intro x y h
  exact fun_spec E_ok mixed (cs_lodgeref3_whole_ok S N) (f := 68) (fi := ⟨b_lodgeref3_whole, 26, Go.Proofs.Tryd.f68.results.toList⟩) (by kernel_rfl) (ls := []) (.nil) (by kernel_rfl) (ps := ps_lodgeref3_whole) (rs := rs_lodgeref3_whole) (Eq.trans (b := F_lodgeref3_whole N x.1 x.2.1 x.2.2.1 x.2.2.2.1) (by kernel_rfl) h)

/-! lodge/lodgeref3.Whole -/

abbrev ps_lodgeref3_Whole : List Ty := [.flt, (.int .i64), (.int .i64)]
abbrev rs_lodgeref3_Whole : List Slot := [.data (.int .i64)]
abbrev cs_lodgeref3_Whole (N : Nat) : List CallSpec := [c_lodgeref3_nan N, c_lodgeref3_Cut N, c_lodgeref3_Round N, c_lodgeref3_whole N]
noncomputable abbrev b_lodgeref3_Whole : Code := (Go.Proofs.Tryd.f34.body).getD .skip

def F_lodgeref3_Whole (N : Nat) (x_0 : Nat) (from_1 : Int) (to_2 : Int) : Option (Int × Unit) :=
  cond (decide (to_2 < from_1))
    (
    Option.bind (F_lodgeref3_nan N x_0) fun y0 =>
    cond (y0).1
      (
      Option.bind (F_lodgeref3_Cut N (0 : Int) from_1 from_1) fun y1 =>
      some y1)
      (
      Option.bind (F_lodgeref3_Round N x_0) fun y2 =>
      cond ((Ieee.Format.order (Go.FloatKind.format Go.FloatKind.f64) (y2).1 (14114063095424393472 : Nat)) == (@Option.some Ordering Ordering.lt))
        (
        Option.bind (F_lodgeref3_whole N (y2).1 true from_1 from_1) fun y3 =>
        some y3)
        (
        cond ((Ieee.Format.order (Go.FloatKind.format Go.FloatKind.f64) (y2).1 (4890691058569617664 : Nat)) == (@Option.some Ordering Ordering.gt))
          (
          Option.bind (F_lodgeref3_whole N (y2).1 false from_1 from_1) fun y4 =>
          some y4)
          (
          cond (Go.Eng.ftoiOK Go.IntKind.i64 (y2).1)
            (
            Option.bind (F_lodgeref3_Cut N (Go.Eng.ftoi (y2).1) from_1 from_1) fun y5 =>
            some y5)
            (
            none)))))
    (
    Option.bind (F_lodgeref3_nan N x_0) fun y6 =>
    cond (y6).1
      (
      Option.bind (F_lodgeref3_Cut N (0 : Int) from_1 to_2) fun y7 =>
      some y7)
      (
      Option.bind (F_lodgeref3_Round N x_0) fun y8 =>
      cond ((Ieee.Format.order (Go.FloatKind.format Go.FloatKind.f64) (y8).1 (14114063095424393472 : Nat)) == (@Option.some Ordering Ordering.lt))
        (
        Option.bind (F_lodgeref3_whole N (y8).1 true from_1 to_2) fun y9 =>
        some y9)
        (
        cond ((Ieee.Format.order (Go.FloatKind.format Go.FloatKind.f64) (y8).1 (4890691058569617664 : Nat)) == (@Option.some Ordering Ordering.gt))
          (
          Option.bind (F_lodgeref3_whole N (y8).1 false from_1 to_2) fun y10 =>
          some y10)
          (
          cond (Go.Eng.ftoiOK Go.IntKind.i64 (y8).1)
            (
            Option.bind (F_lodgeref3_Cut N (Go.Eng.ftoi (y8).1) from_1 to_2) fun y11 =>
            some y11)
            (
            none)))))

abbrev c_lodgeref3_Whole (N : Nat) : CallSpec := ⟨34, ps_lodgeref3_Whole, rs_lodgeref3_Whole, fun x => F_lodgeref3_Whole N x.1 x.2.1 x.2.2.1⟩

theorem cs_lodgeref3_Whole_ok (S : Nat → Addr) (N : Nat) : CallsOK Go.Proofs.Tryd.prog E S (cs_lodgeref3_Whole N) :=
  .cons (F_lodgeref3_nan_ok S N) (.cons (F_lodgeref3_Cut_ok S N) (.cons (F_lodgeref3_Round_ok S N) (.cons (F_lodgeref3_whole_ok S N) (.nil))))
theorem F_lodgeref3_Whole_ok (S : Nat → Addr) (N : Nat) : ∀ x y, (c_lodgeref3_Whole N).g x = some y → FCon Go.Proofs.Tryd.prog E S 34 ps_lodgeref3_Whole rs_lodgeref3_Whole x y := by
  intro x y h
  exact fun_spec E_ok mixed (cs_lodgeref3_Whole_ok S N) (f := 34) (fi := ⟨b_lodgeref3_Whole, 36, Go.Proofs.Tryd.f34.results.toList⟩) (by kernel_rfl) (ls := []) (.nil) (by kernel_rfl) (ps := ps_lodgeref3_Whole) (rs := rs_lodgeref3_Whole) (Eq.trans (b := F_lodgeref3_Whole N x.1 x.2.1 x.2.2.1) (by kernel_rfl) h)

/-! lodge/lodgeref3.Table -/

abbrev ps_lodgeref3_Table : List Ty := [.flt]
abbrev rs_lodgeref3_Table : List Slot := [.ag [.sl (.int .i64), .d .bool, .sl (.int .i64)], .data .bool]
abbrev cs_lodgeref3_Table (N : Nat) : List CallSpec := [c_lodgeref3_finite N, c_lodgeref3_Zero N, c_lodgeref3_Whole N]
noncomputable abbrev b_lodgeref3_Table : Code := (Go.Proofs.Tryd.f11.body).getD .skip

abbrev h_lodgeref3_Table_0 : List Slot := [.data .flt, .dead, .box [.sl (.int .i64), .d .bool, .sl (.int .i64)], .dead, .box [.sl (.int .i64), .d .bool, .sl (.int .i64)], .data (.int .i64), .dead, .dead, .dead, .dead, .dead, .dead, .dead, .dead, .dead, .dead, .dead, .dead, .dead, .dead, .dead, .dead, .dead, .dead, .dead, .dead, .dead, .dead, .dead, .dead, .dead, .dead, .dead, .dead, .dead, .dead, .dead, .dead, .dead, .dead, .dead, .dead, .dead, .dead, .dead]
abbrev e_lodgeref3_Table_0 : List (AX × List Slot) := [(AX.exit 0, [.dead, .dead, .box [.sl (.int .i64), .d .bool, .sl (.int .i64)], .dead, .box [.sl (.int .i64), .d .bool, .sl (.int .i64)], .dead, .dead, .dead, .dead, .dead, .dead, .dead, .dead, .dead, .dead, .dead, .dead, .dead, .dead, .dead, .dead, .dead, .dead, .dead, .dead, .dead, .dead, .dead, .dead, .dead, .dead, .dead, .dead, .dead, .dead, .dead, .dead, .dead, .dead, .dead, .dead, .dead, .dead, .dead, .dead])]
def g_lodgeref3_Table_0 (N : Nat) : Nat → Nat → (List Int × (Bool × (List Int × Unit))) → (List Int × (Bool × (List Int × Unit))) → Int → Option ((List Int × (Bool × (List Int × Unit))) × ((List Int × (Bool × (List Int × Unit))) × Unit))
  | 0, _, _, _, _ => none
  | n + 1, by_0, t_2, t_4, i_5 =>
    cond (decide (i_5 < (255 : Int)))
      (
      cond (decide ((0 : Int) ≤ i_5))
        (
        cond (decide ((Int.toNat i_5) < (List.length (((t_4).2).2).1)))
          (
          cond (decide (((0 : Nat) + (Int.toNat i_5)) < (List.length (((t_4).2).2).1)))
            (
            cond (@Option.isSome Nat (Go.Eng.fbin Go.BinOp.mul (Go.FloatKind.nearest Go.FloatKind.f64 (List.getD (((t_4).2).2).1 ((0 : Nat) + (Int.toNat i_5)) (0 : Int))) by_0))
              (
              Option.bind (F_lodgeref3_Whole N (@Option.getD Nat (Go.Eng.fbin Go.BinOp.mul (Go.FloatKind.nearest Go.FloatKind.f64 (List.getD (((t_4).2).2).1 ((0 : Nat) + (Int.toNat i_5)) (0 : Int))) by_0) (0 : Nat)) (0 : Int) (1048576 : Int)) fun y3 =>
              cond (decide ((0 : Int) ≤ (wi64 (i_5 + (1 : Int)))))
                (
                cond (decide ((Int.toNat (wi64 (i_5 + (1 : Int)))) < (List.length (((t_4).2).2).1)))
                  (
                  cond (decide (((0 : Nat) + (Int.toNat (wi64 (i_5 + (1 : Int))))) < (List.length (((t_4).2).2).1)))
                    (
                    cond (decide ((List.length (t_2).1) = (List.length (t_2).1)))
                      (
                      cond (decide ((List.length (((t_2).2).2).1) = (List.length (((t_2).2).2).1)))
                        (
                        cond (decide ((List.length (t_4).1) = (List.length (t_4).1)))
                          (
                          cond (decide ((List.length (((t_4).2).2).1) = (List.length (List.set (((t_4).2).2).1 ((0 : Nat) + (Int.toNat (wi64 (i_5 + (1 : Int))))) (y3).1))))
                            (
                            (g_lodgeref3_Table_0 N n by_0 t_2 ((t_4).1, (((t_4).2).1, ((List.set (((t_4).2).2).1 ((0 : Nat) + (Int.toNat (wi64 (i_5 + (1 : Int))))) (y3).1), ()))) (wi64 (i_5 + (1 : Int)))))
                            (
                            none))
                          (
                          none))
                        (
                        none))
                      (
                      none))
                    (
                    none))
                  (
                  none))
                (
                none))
              (
              none))
            (
            none))
          (
          none))
        (
        none))
      (
      cond (decide ((List.length (t_2).1) = (List.length (t_2).1)))
        (
        cond (decide ((List.length (((t_2).2).2).1) = (List.length (((t_2).2).2).1)))
          (
          cond (decide ((List.length (t_4).1) = (List.length (t_4).1)))
            (
            cond (decide ((List.length (((t_4).2).2).1) = (List.length (((t_4).2).2).1)))
              (
              some (t_2, (t_4, ())))
              (
              none))
            (
            none))
          (
          none))
        (
        none))

def F_lodgeref3_Table (N : Nat) (by_0 : Nat) : Option ((List Int × (Bool × (List Int × Unit))) × (Bool × Unit)) :=
  Option.bind (F_lodgeref3_finite N by_0) fun y0 =>
  cond (Bool.not (y0).1)
    (
    some ((([] : List Int), (false, (([] : List Int), ()))), (false, ())))
    (
    cond (Bool.not ((Ieee.Format.order (Go.FloatKind.format Go.FloatKind.f64) by_0 (0 : Nat)) == (@Option.some Ordering Ordering.gt)))
      (
      some ((([] : List Int), (false, (([] : List Int), ()))), (false, ())))
      (
      cond (Bool.not ((Ieee.Format.order (Go.FloatKind.format Go.FloatKind.f64) by_0 (4607182418800017408 : Nat)) == (@Option.some Ordering Ordering.lt)))
        (
        some ((([] : List Int), (false, (([] : List Int), ()))), (false, ())))
        (
        Option.bind (F_lodgeref3_Zero N (((256 : Int) :: ([] : List Int)), true)) fun y1 =>
        cond (decide (0 < (List.length ((((y1).1).2).2).1)))
          (
          cond (decide (((0 : Nat) + 0) < (List.length ((((y1).1).2).2).1)))
            (
            cond (decide ((List.length ((y1).1).1) = (List.length ((y1).1).1)))
              (
              cond (decide ((List.length ((((y1).1).2).2).1) = (List.length (List.set ((((y1).1).2).2).1 ((0 : Nat) + 0) (1048576 : Int)))))
                (
                Option.bind (g_lodgeref3_Table_0 N N by_0 (([] : List Int), (false, (([] : List Int), ()))) (((y1).1).1, ((((y1).1).2).1, ((List.set ((((y1).1).2).2).1 ((0 : Nat) + 0) (1048576 : Int)), ()))) (0 : Int)) fun y2 =>
                cond (decide ((List.length (((y2).2).1).1) = (List.length (((y2).2).1).1)))
                  (
                  cond (decide ((List.length (((((y2).2).1).2).2).1) = (List.length (((((y2).2).1).2).2).1)))
                    (
                    some (((y2).2).1, (true, ())))
                    (
                    none))
                  (
                  none))
                (
                none))
              (
              none))
            (
            none))
          (
          none))))

abbrev c_lodgeref3_Table (N : Nat) : CallSpec := ⟨11, ps_lodgeref3_Table, rs_lodgeref3_Table, fun x => F_lodgeref3_Table N x.1⟩
abbrev l_lodgeref3_Table_0 (N : Nat) : LoopSpec := ⟨0, h_lodgeref3_Table_0, e_lodgeref3_Table_0, fun x => g_lodgeref3_Table_0 N N x.1 x.2.1 x.2.2.1 x.2.2.2.1⟩

theorem cs_lodgeref3_Table_ok (S : Nat → Addr) (N : Nat) : CallsOK Go.Proofs.Tryd.prog E S (cs_lodgeref3_Table N) :=
  .cons (F_lodgeref3_finite_ok S N) (.cons (F_lodgeref3_Zero_ok S N) (.cons (F_lodgeref3_Whole_ok S N) (.nil)))
noncomputable abbrev b_lodgeref3_Table_0 : Code := (loopsOf b_lodgeref3_Table).getD 0 .skip
theorem g_lodgeref3_Table_0_ok (S : Nat → Addr) (N : Nat) : ∀ n x y, (fun (x : Val (slotsTy h_lodgeref3_Table_0)) => g_lodgeref3_Table_0 N n x.1 x.2.1 x.2.2.1 x.2.2.2.1) x = some y → LoopCon Go.Proofs.Tryd.prog E S b_lodgeref3_Table_0 (encSlots h_lodgeref3_Table_0 x) (encEx e_lodgeref3_Table_0 y).1 (encEx e_lodgeref3_Table_0 y).2 :=
  loop_spec E_ok mixed (cs_lodgeref3_Table_ok S N) (all := loopsOf b_lodgeref3_Table) (ls := []) (.nil) (i := 0) (by kernel_rfl) (inner_of (by kernel_rfl)) (head := h_lodgeref3_Table_0) (ex := e_lodgeref3_Table_0) (fun n (x : Val (slotsTy h_lodgeref3_Table_0)) => g_lodgeref3_Table_0 N n x.1 x.2.1 x.2.2.1 x.2.2.2.1) (fun _ => rfl) (fun n x => by kernel_rfl)
theorem F_lodgeref3_Table_ok (S : Nat → Addr) (N : Nat) : ∀ x y, (c_lodgeref3_Table N).g x = some y → FCon Go.Proofs.Tryd.prog E S 11 ps_lodgeref3_Table rs_lodgeref3_Table x y := by
  intro x y h
  exact fun_spec E_ok mixed (cs_lodgeref3_Table_ok S N) (f := 11) (fi := ⟨b_lodgeref3_Table, 45, Go.Proofs.Tryd.f11.results.toList⟩) (by kernel_rfl) (ls := [l_lodgeref3_Table_0 N]) (.cons (by kernel_rfl) (g_lodgeref3_Table_0_ok S N N) (.nil)) (by kernel_rfl) (ps := ps_lodgeref3_Table) (rs := rs_lodgeref3_Table) (Eq.trans (b := F_lodgeref3_Table N x.1) (by kernel_rfl) h)

/-! lodge/lodgeref.Bare -/

abbrev ps_lodgeref_Bare : List Ty := [(.int .i64)]
abbrev rs_lodgeref_Bare : List Slot := [.data (.st (.pair (.int .i64) (.pair .bool (.int .i64))))]
abbrev cs_lodgeref_Bare (N : Nat) : List CallSpec := []
noncomputable abbrev b_lodgeref_Bare : Code := (Go.Proofs.Tryd.f35.body).getD .skip

def F_lodgeref_Bare (N : Nat) (code_0 : Int) : Option ((Int × (Bool × Int)) × Unit) :=
  some ((code_0, (false, (0 : Int))), ())

abbrev c_lodgeref_Bare (N : Nat) : CallSpec := ⟨35, ps_lodgeref_Bare, rs_lodgeref_Bare, fun x => F_lodgeref_Bare N x.1⟩

theorem cs_lodgeref_Bare_ok (S : Nat → Addr) (N : Nat) : CallsOK Go.Proofs.Tryd.prog E S (cs_lodgeref_Bare N) :=
  .nil
theorem F_lodgeref_Bare_ok (S : Nat → Addr) (N : Nat) : ∀ x y, (c_lodgeref_Bare N).g x = some y → FCon Go.Proofs.Tryd.prog E S 35 ps_lodgeref_Bare rs_lodgeref_Bare x y := by
  intro x y h
  exact fun_spec E_ok mixed (cs_lodgeref_Bare_ok S N) (f := 35) (fi := ⟨b_lodgeref_Bare, 5, Go.Proofs.Tryd.f35.results.toList⟩) (by kernel_rfl) (ls := []) (.nil) (by kernel_rfl) (ps := ps_lodgeref_Bare) (rs := rs_lodgeref_Bare) (Eq.trans (b := F_lodgeref_Bare N x.1) (by kernel_rfl) h)

/-! lodge/lodgeref.None -/

abbrev ps_lodgeref_None : List Ty := []
abbrev rs_lodgeref_None : List Slot := [.data (.st (.pair (.int .i64) (.pair .bool (.int .i64))))]
abbrev cs_lodgeref_None (N : Nat) : List CallSpec := []
noncomputable abbrev b_lodgeref_None : Code := (Go.Proofs.Tryd.f48.body).getD .skip

def F_lodgeref_None (N : Nat)  : Option ((Int × (Bool × Int)) × Unit) :=
  some (((0 : Int), (false, (0 : Int))), ())

abbrev c_lodgeref_None (N : Nat) : CallSpec := ⟨48, ps_lodgeref_None, rs_lodgeref_None, fun x => F_lodgeref_None N ⟩

theorem cs_lodgeref_None_ok (S : Nat → Addr) (N : Nat) : CallsOK Go.Proofs.Tryd.prog E S (cs_lodgeref_None N) :=
  .nil
theorem F_lodgeref_None_ok (S : Nat → Addr) (N : Nat) : ∀ x y, (c_lodgeref_None N).g x = some y → FCon Go.Proofs.Tryd.prog E S 48 ps_lodgeref_None rs_lodgeref_None x y := by
  intro x y h
  exact fun_spec E_ok mixed (cs_lodgeref_None_ok S N) (f := 48) (fi := ⟨b_lodgeref_None, 2, Go.Proofs.Tryd.f48.results.toList⟩) (by kernel_rfl) (ls := []) (.nil) (by kernel_rfl) (ps := ps_lodgeref_None) (rs := rs_lodgeref_None) (Eq.trans (b := F_lodgeref_None N ) (by kernel_rfl) h)

/-! lodge/lodgesee.sentinels -/

abbrev ps_lodgesee_sentinels : List Ty := []
abbrev rs_lodgesee_sentinels : List Slot := [.sl .err]
abbrev cs_lodgesee_sentinels (N : Nat) : List CallSpec := []
noncomputable abbrev b_lodgesee_sentinels : Code := (Go.Proofs.Tryd.f102.body).getD .skip

def F_lodgesee_sentinels (N : Nat)  : Option (List Er × Unit) :=
  some (((Go.Eng.Er.s ErrShape) :: ((Go.Eng.Er.s ErrRange) :: ((Go.Eng.Er.s ErrKind) :: ((Go.Eng.Er.s ErrMany) :: ((Go.Eng.Er.s ErrEnd) :: ((Go.Eng.Er.s ErrRoom) :: ((Go.Eng.Er.s ErrNone) :: ((Go.Eng.Er.s ErrAlias) :: ((Go.Eng.Er.s ErrCost) :: ((Go.Eng.Er.s ErrJump) :: ((Go.Eng.Er.s ErrCycle) :: ((Go.Eng.Er.s ErrFuel) :: ((Go.Eng.Er.s ErrFull) :: ((Go.Eng.Er.s ErrQuota) :: ((Go.Eng.Er.s ErrCap) :: ((Go.Eng.Er.s ErrStale) :: ((Go.Eng.Er.s ErrTag) :: ((Go.Eng.Er.s ErrOld) :: ((Go.Eng.Er.s ErrTenant) :: ((Go.Eng.Er.s ErrWord) :: ((Go.Eng.Er.s ErrNumber) :: ([] : List Go.Eng.Er)))))))))))))))))))))), ())

abbrev c_lodgesee_sentinels (N : Nat) : CallSpec := ⟨102, ps_lodgesee_sentinels, rs_lodgesee_sentinels, fun x => F_lodgesee_sentinels N ⟩

theorem cs_lodgesee_sentinels_ok (S : Nat → Addr) (N : Nat) : CallsOK Go.Proofs.Tryd.prog E S (cs_lodgesee_sentinels N) :=
  .nil
theorem F_lodgesee_sentinels_ok (S : Nat → Addr) (N : Nat) : ∀ x y, (c_lodgesee_sentinels N).g x = some y → FCon Go.Proofs.Tryd.prog E S 102 ps_lodgesee_sentinels rs_lodgesee_sentinels x y := by
  intro x y h
  exact fun_spec E_ok mixed (cs_lodgesee_sentinels_ok S N) (f := 102) (fi := ⟨b_lodgesee_sentinels, 23, Go.Proofs.Tryd.f102.results.toList⟩) (by kernel_rfl) (ls := []) (.nil) (by kernel_rfl) (ps := ps_lodgesee_sentinels) (rs := rs_lodgesee_sentinels) (Eq.trans (b := F_lodgesee_sentinels N ) (by kernel_rfl) h)

/-! lodge/lodgesee.Alike -/

abbrev ps_lodgesee_Alike : List Ty := [.err, .err]
abbrev rs_lodgesee_Alike : List Slot := [.data .bool]
abbrev cs_lodgesee_Alike (N : Nat) : List CallSpec := []
noncomputable abbrev b_lodgesee_Alike : Code := (Go.Proofs.Tryd.f103.body).getD .skip

def F_lodgesee_Alike (N : Nat) (a_0 : Er) (b_1 : Er) : Option (Bool × Unit) :=
  cond (Go.Eng.Er.isNil a_0)
    (
    cond (Go.Eng.Er.isNil a_0)
      (
      some ((Go.Eng.Er.isNil b_1), ()))
      (
      some (false, ())))
    (
    cond (Go.Eng.Er.isNil b_1)
      (
      cond (Go.Eng.Er.isNil a_0)
        (
        some ((Go.Eng.Er.isNil b_1), ()))
        (
        some (false, ())))
      (
      cond (Go.Eng.okEq a_0 b_1)
        (
        some ((decide (a_0 = b_1)), ()))
        (
        none)))

abbrev c_lodgesee_Alike (N : Nat) : CallSpec := ⟨103, ps_lodgesee_Alike, rs_lodgesee_Alike, fun x => F_lodgesee_Alike N x.1 x.2.1⟩

theorem cs_lodgesee_Alike_ok (S : Nat → Addr) (N : Nat) : CallsOK Go.Proofs.Tryd.prog E S (cs_lodgesee_Alike N) :=
  .nil
theorem F_lodgesee_Alike_ok (S : Nat → Addr) (N : Nat) : ∀ x y, (c_lodgesee_Alike N).g x = some y → FCon Go.Proofs.Tryd.prog E S 103 ps_lodgesee_Alike rs_lodgesee_Alike x y := by
  intro x y h
  exact fun_spec E_ok mixed (cs_lodgesee_Alike_ok S N) (f := 103) (fi := ⟨b_lodgesee_Alike, 20, Go.Proofs.Tryd.f103.results.toList⟩) (by kernel_rfl) (ls := []) (.nil) (by kernel_rfl) (ps := ps_lodgesee_Alike) (rs := rs_lodgesee_Alike) (Eq.trans (b := F_lodgesee_Alike N x.1 x.2.1) (by kernel_rfl) h)

/-! lodge/lodgesee.sentinel -/

abbrev ps_lodgesee_sentinel : List Ty := [.err]
abbrev rs_lodgesee_sentinel : List Slot := [.data (.int .i64)]
abbrev cs_lodgesee_sentinel (N : Nat) : List CallSpec := [c_lodgesee_sentinels N, c_lodgesee_Alike N]
noncomputable abbrev b_lodgesee_sentinel : Code := (Go.Proofs.Tryd.f88.body).getD .skip

abbrev h_lodgesee_sentinel_0 : List Slot := [.data .err, .dead, .dead, .sl .err, .data (.int .i64), .dead, .dead, .dead, .dead, .dead, .dead, .dead, .dead, .dead, .dead, .dead, .dead, .dead, .dead, .dead]
abbrev e_lodgesee_sentinel_0 : List (AX × List Slot) := [(AX.exit 0, [.dead, .dead, .dead, .dead, .dead, .dead, .dead, .dead, .dead, .dead, .dead, .dead, .dead, .dead, .dead, .dead, .dead, .dead, .dead, .dead]), (AX.ret, [.dead, .dead, .data (.int .i64), .dead, .dead, .dead, .dead, .dead, .dead, .dead, .dead, .dead, .dead, .dead, .dead, .dead, .dead, .dead, .dead, .dead])]
def g_lodgesee_sentinel_0 (N : Nat) : Nat → Er → List Er → Int → Option (Sum Unit (Int × Unit))
  | 0, _, _, _ => none
  | n + 1, e_0, l_3, i_4 =>
    cond (decide (i_4 < (Nat.cast (List.length l_3) : Int)))
      (
      cond (decide ((0 : Int) ≤ i_4))
        (
        cond (decide ((Int.toNat i_4) < (List.length l_3)))
          (
          cond (decide (((0 : Nat) + (Int.toNat i_4)) < (List.length l_3)))
            (
            Option.bind (F_lodgesee_Alike N e_0 (List.getD l_3 ((0 : Nat) + (Int.toNat i_4)) Go.Eng.Er.nil)) fun y2 =>
            cond (y2).1
              (
              some (Sum.inr ((wi64 ((101 : Int) + i_4)), ())))
              (
              cond (decide ((List.length l_3) = (List.length l_3)))
                (
                (g_lodgesee_sentinel_0 N n e_0 l_3 (wi64 (i_4 + (1 : Int)))))
                (
                none)))
            (
            none))
          (
          none))
        (
        none))
      (
      some (Sum.inl ()))

def F_lodgesee_sentinel (N : Nat) (e_0 : Er) : Option (Int × Unit) :=
  Option.bind (F_lodgesee_sentinels N) fun y0 =>
  cond (decide ((List.length (y0).1) = (List.length (y0).1)))
    (
    Option.bind (g_lodgesee_sentinel_0 N N e_0 (y0).1 (0 : Int)) fun y1 =>
    Sum.elim (fun y2 =>
      some ((-(1 : Int)), ()))
      (fun y3 =>
      some y3) y1)
    (
    none)

abbrev c_lodgesee_sentinel (N : Nat) : CallSpec := ⟨88, ps_lodgesee_sentinel, rs_lodgesee_sentinel, fun x => F_lodgesee_sentinel N x.1⟩
abbrev l_lodgesee_sentinel_0 (N : Nat) : LoopSpec := ⟨0, h_lodgesee_sentinel_0, e_lodgesee_sentinel_0, fun x => g_lodgesee_sentinel_0 N N x.1 x.2.1 x.2.2.1⟩

theorem cs_lodgesee_sentinel_ok (S : Nat → Addr) (N : Nat) : CallsOK Go.Proofs.Tryd.prog E S (cs_lodgesee_sentinel N) :=
  .cons (F_lodgesee_sentinels_ok S N) (.cons (F_lodgesee_Alike_ok S N) (.nil))
noncomputable abbrev b_lodgesee_sentinel_0 : Code := (loopsOf b_lodgesee_sentinel).getD 0 .skip
theorem g_lodgesee_sentinel_0_ok (S : Nat → Addr) (N : Nat) : ∀ n x y, (fun (x : Val (slotsTy h_lodgesee_sentinel_0)) => g_lodgesee_sentinel_0 N n x.1 x.2.1 x.2.2.1) x = some y → LoopCon Go.Proofs.Tryd.prog E S b_lodgesee_sentinel_0 (encSlots h_lodgesee_sentinel_0 x) (encEx e_lodgesee_sentinel_0 y).1 (encEx e_lodgesee_sentinel_0 y).2 :=
  loop_spec E_ok mixed (cs_lodgesee_sentinel_ok S N) (all := loopsOf b_lodgesee_sentinel) (ls := []) (.nil) (i := 0) (by kernel_rfl) (inner_of (by kernel_rfl)) (head := h_lodgesee_sentinel_0) (ex := e_lodgesee_sentinel_0) (fun n (x : Val (slotsTy h_lodgesee_sentinel_0)) => g_lodgesee_sentinel_0 N n x.1 x.2.1 x.2.2.1) (fun _ => rfl) (fun n x => by kernel_rfl)
theorem F_lodgesee_sentinel_ok (S : Nat → Addr) (N : Nat) : ∀ x y, (c_lodgesee_sentinel N).g x = some y → FCon Go.Proofs.Tryd.prog E S 88 ps_lodgesee_sentinel rs_lodgesee_sentinel x y := by
  intro x y h
  exact fun_spec E_ok mixed (cs_lodgesee_sentinel_ok S N) (f := 88) (fi := ⟨b_lodgesee_sentinel, 20, Go.Proofs.Tryd.f88.results.toList⟩) (by kernel_rfl) (ls := [l_lodgesee_sentinel_0 N]) (.cons (by kernel_rfl) (g_lodgesee_sentinel_0_ok S N N) (.nil)) (by kernel_rfl) (ps := ps_lodgesee_sentinel) (rs := rs_lodgesee_sentinel) (Eq.trans (b := F_lodgesee_sentinel N x.1) (by kernel_rfl) h)

/-! lodge/lodgeref.Placed -/

abbrev ps_lodgeref_Placed : List Ty := [(.int .i64), (.int .i64)]
abbrev rs_lodgeref_Placed : List Slot := [.data (.st (.pair (.int .i64) (.pair .bool (.int .i64))))]
abbrev cs_lodgeref_Placed (N : Nat) : List CallSpec := [c_lodgeref_None N]
noncomputable abbrev b_lodgeref_Placed : Code := (Go.Proofs.Tryd.f75.body).getD .skip

def F_lodgeref_Placed (N : Nat) (code_0 : Int) (pos_1 : Int) : Option ((Int × (Bool × Int)) × Unit) :=
  cond (decide (code_0 = (0 : Int)))
    (
    Option.bind (F_lodgeref_None N) fun y0 =>
    some y0)
    (
    some ((code_0, (true, pos_1)), ()))

abbrev c_lodgeref_Placed (N : Nat) : CallSpec := ⟨75, ps_lodgeref_Placed, rs_lodgeref_Placed, fun x => F_lodgeref_Placed N x.1 x.2.1⟩

theorem cs_lodgeref_Placed_ok (S : Nat → Addr) (N : Nat) : CallsOK Go.Proofs.Tryd.prog E S (cs_lodgeref_Placed N) :=
  .cons (F_lodgeref_None_ok S N) (.nil)
theorem F_lodgeref_Placed_ok (S : Nat → Addr) (N : Nat) : ∀ x y, (c_lodgeref_Placed N).g x = some y → FCon Go.Proofs.Tryd.prog E S 75 ps_lodgeref_Placed rs_lodgeref_Placed x y := by
  intro x y h
  exact fun_spec E_ok mixed (cs_lodgeref_Placed_ok S N) (f := 75) (fi := ⟨b_lodgeref_Placed, 11, Go.Proofs.Tryd.f75.results.toList⟩) (by kernel_rfl) (ls := []) (.nil) (by kernel_rfl) (ps := ps_lodgeref_Placed) (rs := rs_lodgeref_Placed) (Eq.trans (b := F_lodgeref_Placed N x.1 x.2.1) (by kernel_rfl) h)

/-! lodge/lodgesee.Fault -/

abbrev ps_lodgesee_Fault : List Ty := [.err]
abbrev rs_lodgesee_Fault : List Slot := [.data (.st (.pair (.int .i64) (.pair .bool (.int .i64))))]
abbrev cs_lodgesee_Fault (N : Nat) : List CallSpec := [c_lodgeref_Bare N, c_lodgeref_None N, c_lodgesee_sentinel N, c_lodgeref_Placed N]
noncomputable abbrev b_lodgesee_Fault : Code := (Go.Proofs.Tryd.f50.body).getD .skip

def F_lodgesee_Fault (N : Nat) (e_0 : Er) : Option ((Int × (Bool × Int)) × Unit) :=
  cond (Go.Eng.Er.isNil e_0)
    (
    Option.bind (F_lodgeref_None N) fun y0 =>
    some y0)
    (
    cond (Go.Eng.Er.isAt e_0)
      (
      Option.bind (F_lodgesee_sentinel N (Go.Eng.Er.s (Go.Eng.Er.gix e_0))) fun y1 =>
      Option.bind (F_lodgeref_Placed N (y1).1 (Go.Eng.Er.pos e_0)) fun y2 =>
      some y2)
      (
      Option.bind (F_lodgesee_sentinel N e_0) fun y3 =>
      Option.bind (F_lodgeref_Bare N (y3).1) fun y4 =>
      some y4))

abbrev c_lodgesee_Fault (N : Nat) : CallSpec := ⟨50, ps_lodgesee_Fault, rs_lodgesee_Fault, fun x => F_lodgesee_Fault N x.1⟩

theorem cs_lodgesee_Fault_ok (S : Nat → Addr) (N : Nat) : CallsOK Go.Proofs.Tryd.prog E S (cs_lodgesee_Fault N) :=
  .cons (F_lodgeref_Bare_ok S N) (.cons (F_lodgeref_None_ok S N) (.cons (F_lodgesee_sentinel_ok S N) (.cons (F_lodgeref_Placed_ok S N) (.nil))))
theorem F_lodgesee_Fault_ok (S : Nat → Addr) (N : Nat) : ∀ x y, (c_lodgesee_Fault N).g x = some y → FCon Go.Proofs.Tryd.prog E S 50 ps_lodgesee_Fault rs_lodgesee_Fault x y := by
  intro x y h
  exact fun_spec E_ok mixed (cs_lodgesee_Fault_ok S N) (f := 50) (fi := ⟨b_lodgesee_Fault, 38, Go.Proofs.Tryd.f50.results.toList⟩) (by kernel_rfl) (ls := []) (.nil) (by kernel_rfl) (ps := ps_lodgesee_Fault) (rs := rs_lodgesee_Fault) (Eq.trans (b := F_lodgesee_Fault N x.1) (by kernel_rfl) h)

/-! lodge/lodgeref.SameFault -/

abbrev ps_lodgeref_SameFault : List Ty := [(.st (.pair (.int .i64) (.pair .bool (.int .i64)))), (.st (.pair (.int .i64) (.pair .bool (.int .i64))))]
abbrev rs_lodgeref_SameFault : List Slot := [.data .bool]
abbrev cs_lodgeref_SameFault (N : Nat) : List CallSpec := []
noncomputable abbrev b_lodgeref_SameFault : Code := (Go.Proofs.Tryd.f49.body).getD .skip

def F_lodgeref_SameFault (N : Nat) (a_0 : (Int × (Bool × Int))) (b_1 : (Int × (Bool × Int))) : Option (Bool × Unit) :=
  cond (decide ((a_0).1 = (b_1).1))
    (
    cond (((a_0).2).1 == ((b_1).2).1)
      (
      some ((decide (((a_0).2).2 = ((b_1).2).2)), ()))
      (
      some (false, ())))
    (
    some (false, ()))

abbrev c_lodgeref_SameFault (N : Nat) : CallSpec := ⟨49, ps_lodgeref_SameFault, rs_lodgeref_SameFault, fun x => F_lodgeref_SameFault N x.1 x.2.1⟩

theorem cs_lodgeref_SameFault_ok (S : Nat → Addr) (N : Nat) : CallsOK Go.Proofs.Tryd.prog E S (cs_lodgeref_SameFault N) :=
  .nil
theorem F_lodgeref_SameFault_ok (S : Nat → Addr) (N : Nat) : ∀ x y, (c_lodgeref_SameFault N).g x = some y → FCon Go.Proofs.Tryd.prog E S 49 ps_lodgeref_SameFault rs_lodgeref_SameFault x y := by
  intro x y h
  exact fun_spec E_ok mixed (cs_lodgeref_SameFault_ok S N) (f := 49) (fi := ⟨b_lodgeref_SameFault, 24, Go.Proofs.Tryd.f49.results.toList⟩) (by kernel_rfl) (ls := []) (.nil) (by kernel_rfl) (ps := ps_lodgeref_SameFault) (rs := rs_lodgeref_SameFault) (Eq.trans (b := F_lodgeref_SameFault N x.1 x.2.1) (by kernel_rfl) h)

/-! lodge/lodgesee.Same -/

abbrev ps_lodgesee_Same : List Ty := [.err, (.st (.pair (.int .i64) (.pair .bool (.int .i64))))]
abbrev rs_lodgesee_Same : List Slot := [.data .bool]
abbrev cs_lodgesee_Same (N : Nat) : List CallSpec := [c_lodgesee_Fault N, c_lodgeref_SameFault N]
noncomputable abbrev b_lodgesee_Same : Code := (Go.Proofs.Tryd.f23.body).getD .skip

def F_lodgesee_Same (N : Nat) (e_0 : Er) (f_1 : (Int × (Bool × Int))) : Option (Bool × Unit) :=
  Option.bind (F_lodgesee_Fault N e_0) fun y0 =>
  Option.bind (F_lodgeref_SameFault N (y0).1 f_1) fun y1 =>
  some y1

abbrev c_lodgesee_Same (N : Nat) : CallSpec := ⟨23, ps_lodgesee_Same, rs_lodgesee_Same, fun x => F_lodgesee_Same N x.1 x.2.1⟩

theorem cs_lodgesee_Same_ok (S : Nat → Addr) (N : Nat) : CallsOK Go.Proofs.Tryd.prog E S (cs_lodgesee_Same N) :=
  .cons (F_lodgesee_Fault_ok S N) (.cons (F_lodgeref_SameFault_ok S N) (.nil))
theorem F_lodgesee_Same_ok (S : Nat → Addr) (N : Nat) : ∀ x y, (c_lodgesee_Same N).g x = some y → FCon Go.Proofs.Tryd.prog E S 23 ps_lodgesee_Same rs_lodgesee_Same x y := by
  intro x y h
  exact fun_spec E_ok mixed (cs_lodgesee_Same_ok S N) (f := 23) (fi := ⟨b_lodgesee_Same, 9, Go.Proofs.Tryd.f23.results.toList⟩) (by kernel_rfl) (ls := []) (.nil) (by kernel_rfl) (ps := ps_lodgesee_Same) (rs := rs_lodgesee_Same) (Eq.trans (b := F_lodgesee_Same N x.1 x.2.1) (by kernel_rfl) h)

/-! lodge/lodgesee.Is -/

abbrev ps_lodgesee_Is : List Ty := [.err, (.int .i64)]
abbrev rs_lodgesee_Is : List Slot := [.data .bool]
abbrev cs_lodgesee_Is (N : Nat) : List CallSpec := [c_lodgeref_Bare N, c_lodgesee_Same N]
noncomputable abbrev b_lodgesee_Is : Code := (Go.Proofs.Tryd.f12.body).getD .skip

def F_lodgesee_Is (N : Nat) (e_0 : Er) (code_1 : Int) : Option (Bool × Unit) :=
  Option.bind (F_lodgeref_Bare N code_1) fun y0 =>
  Option.bind (F_lodgesee_Same N e_0 (y0).1) fun y1 =>
  some y1

abbrev c_lodgesee_Is (N : Nat) : CallSpec := ⟨12, ps_lodgesee_Is, rs_lodgesee_Is, fun x => F_lodgesee_Is N x.1 x.2.1⟩

theorem cs_lodgesee_Is_ok (S : Nat → Addr) (N : Nat) : CallsOK Go.Proofs.Tryd.prog E S (cs_lodgesee_Is N) :=
  .cons (F_lodgeref_Bare_ok S N) (.cons (F_lodgesee_Same_ok S N) (.nil))
theorem F_lodgesee_Is_ok (S : Nat → Addr) (N : Nat) : ∀ x y, (c_lodgesee_Is N).g x = some y → FCon Go.Proofs.Tryd.prog E S 12 ps_lodgesee_Is rs_lodgesee_Is x y := by
  intro x y h
  exact fun_spec E_ok mixed (cs_lodgesee_Is_ok S N) (f := 12) (fi := ⟨b_lodgesee_Is, 9, Go.Proofs.Tryd.f12.results.toList⟩) (by kernel_rfl) (ls := []) (.nil) (by kernel_rfl) (ps := ps_lodgesee_Is) (rs := rs_lodgesee_Is) (Eq.trans (b := F_lodgesee_Is N x.1 x.2.1) (by kernel_rfl) h)


end Go.Proofs.YtohkmbpdjigjdaaDoor.Lg
