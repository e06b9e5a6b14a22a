/-
  The functions of the seat's program, as plain functions.
-/
import Derived.Test.YtohkmbpdjigjdaaDoorLgSoftAFa
namespace Go.Proofs.YtohkmbpdjigjdaaDoor.Lg
open Go Go.Eng Go.Proofs
set_option maxRecDepth 100000

/-! lodge/soft.At -/

abbrev ps_soft_At : List Ty := [(.int .i64), (.int .i64), (.sl (.st (.pair (.sl (.int .i64)) .bool))), (.sl (.clo 72 (.ref (.st (.pair (.st (.pair (.sl (.int .i64)) .bool)) (.sl (.int .i64)))))))]
abbrev rs_soft_At : List Slot := [.data (.int .i64)]
abbrev cs_soft_At (N : Nat) : List CallSpec := [c_soft_reads_1 N, c_soft_softmax N, c_tens_Wide N]
noncomputable abbrev b_soft_At : Code := (Go.Proofs.Tryd.f41.body).getD .skip

abbrev h_soft_At_1 : List Slot := [.dead, .data (.int .i64), .dead, .dead, .dead, .dead, .dead, .dead, .dead, .dead, .data (.int .i64), .data (.clo 72 (.ref (.st (.pair (.st (.pair (.sl (.int .i64)) .bool)) (.sl (.int .i64)))))), .dead, .dead, .data (.int .i64), .dead, .dead, .dead, .dead, .dead, .dead, .dead, .dead, .dead, .dead, .dead, .dead, .dead, .dead, .dead, .dead, .dead, .dead, .dead, .dead, .dead, .dead, .dead, .dead, .dead, .dead, .dead, .dead, .dead, .dead, .dead, .dead, .dead, .dead, .dead, .dead, .dead, .dead, .dead, .dead, .dead, .dead, .dead, .dead, .dead, .dead, .dead, .dead, .dead, .dead, .dead, .data (.int .i64), .data (.int .i64), .dead, .dead, .dead, .dead, .dead, .dead, .dead, .dead, .dead, .dead, .dead, .dead, .dead, .dead, .dead, .dead, .dead, .dead, .dead, .dead, .dead, .dead, .dead, .dead, .dead, .dead, .dead, .dead, .dead, .dead, .dead, .dead, .dead, .dead, .dead, .dead]
abbrev e_soft_At_1 : List (AX × List Slot) := [(AX.exit 3, [.dead, .dead, .dead, .dead, .dead, .dead, .dead, .dead, .dead, .dead, .dead, .dead, .dead, .dead, .data (.int .i64), .dead, .dead, .dead, .dead, .dead, .dead, .dead, .dead, .dead, .dead, .dead, .dead, .dead, .dead, .dead, .dead, .dead, .dead, .dead, .dead, .dead, .dead, .dead, .dead, .dead, .dead, .dead, .dead, .dead, .dead, .dead, .dead, .dead, .dead, .dead, .dead, .dead, .dead, .dead, .dead, .dead, .dead, .dead, .dead, .dead, .dead, .dead, .dead, .dead, .dead, .dead, .dead, .dead, .dead, .dead, .dead, .dead, .dead, .dead, .dead, .dead, .dead, .dead, .dead, .dead, .dead, .dead, .dead, .dead, .dead, .dead, .dead, .dead, .dead, .dead, .dead, .dead, .dead, .dead, .dead, .dead, .dead, .dead, .dead, .dead, .dead, .dead, .dead, .dead])]
def g_soft_At_1 (N : Nat) : Nat → Int → Int → ((List Int × Bool) × List Int) → Int → Int → Int → Option (Int × Unit)
  | 0, _, _, _, _, _, _ => none
  | n + 1, i_1, n_10, get_11, s_14, t_66, t_67 =>
    cond (decide (t_67 < t_66))
      (
      Option.bind (F_soft_reads_1 N (wi64 ((wi64 (i_1 * n_10)) + t_67)) get_11) fun y3 =>
      (g_soft_At_1 N n i_1 n_10 get_11 (wi64 (s_14 + (y3).1)) t_66 (wi64 (t_67 + (1 : Int)))))
      (
      some (s_14, ()))

abbrev h_soft_At_0 : List Slot := [.dead, .data (.int .i64), .dead, .dead, .dead, .dead, .dead, .dead, .dead, .dead, .data (.int .i64), .data (.clo 72 (.ref (.st (.pair (.st (.pair (.sl (.int .i64)) .bool)) (.sl (.int .i64)))))), .data (.int .i64), .dead, .dead, .dead, .dead, .dead, .dead, .dead, .dead, .dead, .dead, .dead, .dead, .dead, .dead, .dead, .dead, .dead, .dead, .dead, .dead, .dead, .dead, .dead, .dead, .dead, .dead, .dead, .dead, .dead, .data (.int .i64), .data (.int .i64), .dead, .dead, .dead, .dead, .dead, .dead, .dead, .dead, .dead, .dead, .dead, .dead, .dead, .dead, .dead, .dead, .dead, .dead, .dead, .dead, .dead, .dead, .dead, .dead, .dead, .dead, .dead, .dead, .dead, .dead, .dead, .dead, .dead, .dead, .dead, .dead, .dead, .dead, .dead, .dead, .dead, .dead, .dead, .dead, .dead, .dead, .dead, .dead, .dead, .dead, .dead, .dead, .dead, .dead, .dead, .dead, .dead, .dead, .dead, .dead]
abbrev e_soft_At_0 : List (AX × List Slot) := [(AX.exit 1, [.dead, .dead, .dead, .dead, .dead, .dead, .dead, .dead, .dead, .dead, .dead, .dead, .data (.int .i64), .dead, .dead, .dead, .dead, .dead, .dead, .dead, .dead, .dead, .dead, .dead, .dead, .dead, .dead, .dead, .dead, .dead, .dead, .dead, .dead, .dead, .dead, .dead, .dead, .dead, .dead, .dead, .dead, .dead, .dead, .dead, .dead, .dead, .dead, .dead, .dead, .dead, .dead, .dead, .dead, .dead, .dead, .dead, .dead, .dead, .dead, .dead, .dead, .dead, .dead, .dead, .dead, .dead, .dead, .dead, .dead, .dead, .dead, .dead, .dead, .dead, .dead, .dead, .dead, .dead, .dead, .dead, .dead, .dead, .dead, .dead, .dead, .dead, .dead, .dead, .dead, .dead, .dead, .dead, .dead, .dead, .dead, .dead, .dead, .dead, .dead, .dead, .dead, .dead, .dead, .dead])]
def g_soft_At_0 (N : Nat) : Nat → Int → Int → ((List Int × Bool) × List Int) → Int → Int → Int → Option (Int × Unit)
  | 0, _, _, _, _, _, _ => none
  | n + 1, i_1, n_10, get_11, best_12, t_42, t_43 =>
    cond (decide (t_43 < t_42))
      (
      Option.bind (F_soft_reads_1 N (wi64 ((wi64 (i_1 * n_10)) + t_43)) get_11) fun y8 =>
      Option.bind (F_soft_reads_1 N (wi64 ((wi64 (i_1 * n_10)) + best_12)) get_11) fun y9 =>
      cond (decide ((y9).1 < (y8).1))
        (
        (g_soft_At_0 N n i_1 n_10 get_11 t_43 t_42 (wi64 (t_43 + (1 : Int)))))
        (
        (g_soft_At_0 N n i_1 n_10 get_11 best_12 t_42 (wi64 (t_43 + (1 : Int))))))
      (
      some (best_12, ()))

def F_soft_At (N : Nat) (op_0 : Int) (i_1 : Int) (descs_2 : List ((List Int × Bool))) (ins_3 : List ((List Int × Bool) × List Int)) : Option (Int × Unit) :=
  cond (decide (0 < (List.length descs_2)))
    (
    cond (decide ((0 : Int) ≤ (wi64 ((Nat.cast (List.length ((List.getD descs_2 0 (([] : List Int), false))).1) : Int) - (1 : Int)))))
      (
      cond (decide ((Int.toNat (wi64 ((Nat.cast (List.length ((List.getD descs_2 0 (([] : List Int), false))).1) : Int) - (1 : Int)))) < (List.length ((List.getD descs_2 0 (([] : List Int), false))).1)))
        (
        cond (decide (0 < (List.length ins_3)))
          (
          cond (decide (op_0 = (16 : Int)))
            (
            cond (decide (1 < (List.length ins_3)))
              (
              Option.bind (F_soft_softmax N (List.getD ins_3 0 ((([] : List Int), false), ([] : List Int))) (List.getD ins_3 1 ((([] : List Int), false), ([] : List Int))) i_1 (List.getD ((List.getD descs_2 0 (([] : List Int), false))).1 (Int.toNat (wi64 ((Nat.cast (List.length ((List.getD descs_2 0 (([] : List Int), false))).1) : Int) - (1 : Int)))) (0 : Int))) fun y0 =>
              some y0)
              (
              none))
            (
            cond (decide (op_0 = (19 : Int)))
              (
              Option.bind (g_soft_At_0 N N i_1 (List.getD ((List.getD descs_2 0 (([] : List Int), false))).1 (Int.toNat (wi64 ((Nat.cast (List.length ((List.getD descs_2 0 (([] : List Int), false))).1) : Int) - (1 : Int)))) (0 : Int)) (List.getD ins_3 0 ((([] : List Int), false), ([] : List Int))) (0 : Int) (List.getD ((List.getD descs_2 0 (([] : List Int), false))).1 (Int.toNat (wi64 ((Nat.cast (List.length ((List.getD descs_2 0 (([] : List Int), false))).1) : Int) - (1 : Int)))) (0 : Int)) (0 : Int)) fun y1 =>
              some y1)
              (
              cond (decide (op_0 = (20 : Int)))
                (
                Option.bind (g_soft_At_1 N N i_1 (List.getD ((List.getD descs_2 0 (([] : List Int), false))).1 (Int.toNat (wi64 ((Nat.cast (List.length ((List.getD descs_2 0 (([] : List Int), false))).1) : Int) - (1 : Int)))) (0 : Int)) (List.getD ins_3 0 ((([] : List Int), false), ([] : List Int))) (0 : Int) (List.getD ((List.getD descs_2 0 (([] : List Int), false))).1 (Int.toNat (wi64 ((Nat.cast (List.length ((List.getD descs_2 0 (([] : List Int), false))).1) : Int) - (1 : Int)))) (0 : Int)) (0 : Int)) fun y2 =>
                Option.bind (F_tens_Wide N (y2).1) fun y3 =>
                some y3)
                (
                cond (decide (1 < (List.length ins_3)))
                  (
                  cond (decide (@Ne Int (List.getD ((List.getD descs_2 0 (([] : List Int), false))).1 (Int.toNat (wi64 ((Nat.cast (List.length ((List.getD descs_2 0 (([] : List Int), false))).1) : Int) - (1 : Int)))) (0 : Int)) (0 : Int)))
                    (
                    Option.bind (F_soft_reads_1 N (wi64 (Int.tdiv i_1 (List.getD ((List.getD descs_2 0 (([] : List Int), false))).1 (Int.toNat (wi64 ((Nat.cast (List.length ((List.getD descs_2 0 (([] : List Int), false))).1) : Int) - (1 : Int)))) (0 : Int)))) (List.getD ins_3 1 ((([] : List Int), false), ([] : List Int)))) fun y4 =>
                    cond (decide (0 < (List.length ((List.getD descs_2 0 (([] : List Int), false))).1)))
                      (
                      cond (decide (@Ne Int (List.getD ((List.getD descs_2 0 (([] : List Int), false))).1 (Int.toNat (wi64 ((Nat.cast (List.length ((List.getD descs_2 0 (([] : List Int), false))).1) : Int) - (1 : Int)))) (0 : Int)) (0 : Int)))
                        (
                        Option.bind (F_soft_reads_1 N (wi64 ((wi64 ((Go.Eng.imax (0 : Int) (Go.Eng.imin (y4).1 (wi64 ((List.getD ((List.getD descs_2 0 (([] : List Int), false))).1 0 (0 : Int)) - (1 : Int))))) * (List.getD ((List.getD descs_2 0 (([] : List Int), false))).1 (Int.toNat (wi64 ((Nat.cast (List.length ((List.getD descs_2 0 (([] : List Int), false))).1) : Int) - (1 : Int)))) (0 : Int)))) + (Int.tmod i_1 (List.getD ((List.getD descs_2 0 (([] : List Int), false))).1 (Int.toNat (wi64 ((Nat.cast (List.length ((List.getD descs_2 0 (([] : List Int), false))).1) : Int) - (1 : Int)))) (0 : Int))))) (List.getD ins_3 0 ((([] : List Int), false), ([] : List Int)))) fun y5 =>
                        some y5)
                        (
                        none))
                      (
                      none))
                    (
                    none))
                  (
                  none)))))
          (
          none))
        (
        none))
      (
      none))
    (
    none)

abbrev c_soft_At (N : Nat) : CallSpec := ⟨41, ps_soft_At, rs_soft_At, fun x => F_soft_At N x.1 x.2.1 x.2.2.1 x.2.2.2.1⟩
abbrev l_soft_At_1 (N : Nat) : LoopSpec := ⟨1, h_soft_At_1, e_soft_At_1, fun x => g_soft_At_1 N N x.1 x.2.1 x.2.2.1 x.2.2.2.1 x.2.2.2.2.1 x.2.2.2.2.2.1⟩
abbrev l_soft_At_0 (N : Nat) : LoopSpec := ⟨0, h_soft_At_0, e_soft_At_0, fun x => g_soft_At_0 N N x.1 x.2.1 x.2.2.1 x.2.2.2.1 x.2.2.2.2.1 x.2.2.2.2.2.1⟩

theorem cs_soft_At_ok (S : Nat → Addr) (N : Nat) : CallsOK Go.Proofs.Tryd.prog E S (cs_soft_At N) :=
  .cons (F_soft_reads_1_ok S N) (.cons (F_soft_softmax_ok S N) (.cons (F_tens_Wide_ok S N) (.nil)))
noncomputable abbrev b_soft_At_1 : Code := (loopsOf b_soft_At).getD 1 .skip
theorem g_soft_At_1_ok (S : Nat → Addr) (N : Nat) : ∀ n x y, (fun (x : Val (slotsTy h_soft_At_1)) => g_soft_At_1 N n x.1 x.2.1 x.2.2.1 x.2.2.2.1 x.2.2.2.2.1 x.2.2.2.2.2.1) x = some y → LoopCon Go.Proofs.Tryd.prog E S b_soft_At_1 (encSlots h_soft_At_1 x) (encEx e_soft_At_1 y).1 (encEx e_soft_At_1 y).2 :=
  loop_spec E_ok mixed (cs_soft_At_ok S N) (all := loopsOf b_soft_At) (ls := []) (.nil) (i := 1) (by kernel_rfl) (inner_of (by kernel_rfl)) (head := h_soft_At_1) (ex := e_soft_At_1) (fun n (x : Val (slotsTy h_soft_At_1)) => g_soft_At_1 N n x.1 x.2.1 x.2.2.1 x.2.2.2.1 x.2.2.2.2.1 x.2.2.2.2.2.1) (fun _ => rfl) (fun n x => by kernel_rfl)
noncomputable abbrev b_soft_At_0 : Code := (loopsOf b_soft_At).getD 0 .skip
theorem g_soft_At_0_ok (S : Nat → Addr) (N : Nat) : ∀ n x y, (fun (x : Val (slotsTy h_soft_At_0)) => g_soft_At_0 N n x.1 x.2.1 x.2.2.1 x.2.2.2.1 x.2.2.2.2.1 x.2.2.2.2.2.1) x = some y → LoopCon Go.Proofs.Tryd.prog E S b_soft_At_0 (encSlots h_soft_At_0 x) (encEx e_soft_At_0 y).1 (encEx e_soft_At_0 y).2 :=
  loop_spec E_ok mixed (cs_soft_At_ok S N) (all := loopsOf b_soft_At) (ls := []) (.nil) (i := 0) (by kernel_rfl) (inner_of (by kernel_rfl)) (head := h_soft_At_0) (ex := e_soft_At_0) (fun n (x : Val (slotsTy h_soft_At_0)) => g_soft_At_0 N n x.1 x.2.1 x.2.2.1 x.2.2.2.1 x.2.2.2.2.1 x.2.2.2.2.2.1) (fun _ => rfl) (fun n x => by kernel_rfl)
theorem F_soft_At_ok (S : Nat → Addr) (N : Nat) : ∀ x y, (c_soft_At N).g x = some y → FCon Go.Proofs.Tryd.prog E S 41 ps_soft_At rs_soft_At x y := by
  intro x y h
  exact fun_spec E_ok mixed (cs_soft_At_ok S N) (f := 41) (fi := ⟨b_soft_At, 104, Go.Proofs.Tryd.f41.results.toList⟩) (by kernel_rfl) (ls := [l_soft_At_1 N, l_soft_At_0 N]) (.cons (by kernel_rfl) (g_soft_At_1_ok S N N) (.cons (by kernel_rfl) (g_soft_At_0_ok S N N) (.nil))) (by kernel_rfl) (ps := ps_soft_At) (rs := rs_soft_At) (Eq.trans (b := F_soft_At N x.1 x.2.1 x.2.2.1 x.2.2.2.1) (by kernel_rfl) h)

/-! lodge/soft.do -/

abbrev ps_soft_do : List Ty := [(.int .i64), (.sl (.st (.pair (.st (.pair (.sl (.int .i64)) .bool)) (.sl (.int .i64)))))]
abbrev rs_soft_do : List Slot := [.ag [.d (.sl (.int .i64)), .d .bool, .sl (.int .i64)], .data .err]
abbrev cs_soft_do (N : Nat) : List CallSpec := [c_shape_Elems N, c_soft_result N, c_soft_reads N, c_soft_At N]
noncomputable abbrev b_soft_do : Code := (Go.Proofs.Tryd.f36.body).getD .skip

abbrev h_soft_do_0 : List Slot := [.data (.int .i64), .data (.sl (.st (.pair (.st (.pair (.sl (.int .i64)) .bool)) (.sl (.int .i64))))), .dead, .dead, .box [.sl (.int .i64), .d .bool, .sl (.int .i64)], .dead, .dead, .data (.sl (.st (.pair (.sl (.int .i64)) .bool))), .dead, .box [.d (.sl (.int .i64)), .d .bool, .sl (.int .i64)], .dead, .dead, .dead, .dead, .dead, .dead, .dead, .dead, .dead, .dead, .dead, .dead, .dead, .dead, .dead, .dead, .data (.int .i64), .data (.int .i64), .dead, .dead, .dead, .dead, .dead, .dead, .dead, .dead, .dead, .dead, .dead, .dead, .dead, .dead, .dead]
abbrev e_soft_do_0 : List (AX × List Slot) := [(AX.exit 0, [.dead, .dead, .dead, .dead, .box [.sl (.int .i64), .d .bool, .sl (.int .i64)], .dead, .dead, .dead, .dead, .box [.d (.sl (.int .i64)), .d .bool, .sl (.int .i64)], .dead, .dead, .dead, .dead, .dead, .dead, .dead, .dead, .dead, .dead, .dead, .dead, .dead, .dead, .dead, .dead, .dead, .dead, .dead, .dead, .dead, .dead, .dead, .dead, .dead, .dead, .dead, .dead, .dead, .dead, .dead, .dead, .dead])]
def g_soft_do_0 (N : Nat) : Nat → Int → List (((List Int × Bool) × List Int)) → (List Int × (Bool × (List Int × Unit))) → List ((List Int × Bool)) → (List Int × (Bool × (List Int × Unit))) → Int → Int → Option ((List Int × (Bool × (List Int × Unit))) × ((List Int × (Bool × (List Int × Unit))) × Unit))
  | 0, _, _, _, _, _, _, _ => none
  | n + 1, op_0, ins_1, t_4, descs_7, out_9, t_26, t_27 =>
    cond (decide (t_27 < t_26))
      (
      Option.bind (F_soft_reads N ins_1) fun y4 =>
      cond (decide (((0 : Nat) + (List.length (y4).1)) ≤ (List.length (y4).1)))
        (
        Option.bind (F_soft_At N op_0 t_27 descs_7 (List.take (List.length (y4).1) (y4).1)) fun y5 =>
        cond (decide (((0 : Nat) + (List.length (((out_9).2).2).1)) = (List.length (((out_9).2).2).1)))
          (
          cond (decide ((((List.length (((out_9).2).2).1) + 1) * (8 + (1 : Nat))) ≤ Go.Eng.most))
            (
            cond (decide ((List.length (t_4).1) = (List.length (t_4).1)))
              (
              cond (decide ((List.length (((t_4).2).2).1) = (List.length (((t_4).2).2).1)))
                (
                cond (decide (((List.length (((out_9).2).2).1) + 1) = (List.length ((List.take (List.length (((out_9).2).2).1) (((out_9).2).2).1) ++ ((y5).1 :: ([] : List Int))))))
                  (
                  (g_soft_do_0 N n op_0 ins_1 t_4 descs_7 ((out_9).1, (((out_9).2).1, (((List.take (List.length (((out_9).2).2).1) (((out_9).2).2).1) ++ ((y5).1 :: ([] : List Int))), ()))) t_26 (wi64 (t_27 + (1 : Int)))))
                  (
                  none))
                (
                none))
              (
              none))
            (
            none))
          (
          none))
        (
        none))
      (
      cond (decide ((List.length (t_4).1) = (List.length (t_4).1)))
        (
        cond (decide ((List.length (((t_4).2).2).1) = (List.length (((t_4).2).2).1)))
          (
          cond (decide ((List.length (((out_9).2).2).1) = (List.length (((out_9).2).2).1)))
            (
            some (t_4, (out_9, ())))
            (
            none))
          (
          none))
        (
        none))

def F_soft_do (N : Nat) (op_0 : Int) (ins_1 : List (((List Int × Bool) × List Int))) : Option ((List Int × (Bool × (List Int × Unit))) × (Er × Unit)) :=
  Option.bind (F_soft_result N op_0 ins_1) fun y0 =>
  cond (Bool.not (Go.Eng.Er.isNil (((y0).2).2).1))
    (
    some ((([] : List Int), (false, (([] : List Int), ()))), ((y0).2).2))
    (
    Option.bind (F_shape_Elems N ((y0).1).1) fun y1 =>
    Option.bind (g_soft_do_0 N N op_0 ins_1 (([] : List Int), (false, (([] : List Int), ()))) ((y0).2).1 (((y0).1).1, (((y0).1).2, (([] : List Int), ()))) (y1).1 (0 : Int)) fun y2 =>
    cond (decide ((List.length (((((y2).2).1).2).2).1) = (List.length (((((y2).2).1).2).2).1)))
      (
      some (((y2).2).1, (Go.Eng.Er.nil, ())))
      (
      none))

abbrev c_soft_do (N : Nat) : CallSpec := ⟨36, ps_soft_do, rs_soft_do, fun x => F_soft_do N x.1 x.2.1⟩
abbrev l_soft_do_0 (N : Nat) : LoopSpec := ⟨0, h_soft_do_0, e_soft_do_0, fun x => g_soft_do_0 N N x.1 x.2.1 x.2.2.1 x.2.2.2.1 x.2.2.2.2.1 x.2.2.2.2.2.1 x.2.2.2.2.2.2.1⟩

theorem cs_soft_do_ok (S : Nat → Addr) (N : Nat) : CallsOK Go.Proofs.Tryd.prog E S (cs_soft_do N) :=
  .cons (F_shape_Elems_ok S N) (.cons (F_soft_result_ok S N) (.cons (F_soft_reads_ok S N) (.cons (F_soft_At_ok S N) (.nil))))
noncomputable abbrev b_soft_do_0 : Code := (loopsOf b_soft_do).getD 0 .skip
theorem g_soft_do_0_ok (S : Nat → Addr) (N : Nat) : ∀ n x y, (fun (x : Val (slotsTy h_soft_do_0)) => g_soft_do_0 N n x.1 x.2.1 x.2.2.1 x.2.2.2.1 x.2.2.2.2.1 x.2.2.2.2.2.1 x.2.2.2.2.2.2.1) x = some y → LoopCon Go.Proofs.Tryd.prog E S b_soft_do_0 (encSlots h_soft_do_0 x) (encEx e_soft_do_0 y).1 (encEx e_soft_do_0 y).2 :=
  loop_spec E_ok mixed (cs_soft_do_ok S N) (all := loopsOf b_soft_do) (ls := []) (.nil) (i := 0) (by kernel_rfl) (inner_of (by kernel_rfl)) (head := h_soft_do_0) (ex := e_soft_do_0) (fun n (x : Val (slotsTy h_soft_do_0)) => g_soft_do_0 N n x.1 x.2.1 x.2.2.1 x.2.2.2.1 x.2.2.2.2.1 x.2.2.2.2.2.1 x.2.2.2.2.2.2.1) (fun _ => rfl) (fun n x => by kernel_rfl)
theorem F_soft_do_ok (S : Nat → Addr) (N : Nat) : ∀ x y, (c_soft_do N).g x = some y → FCon Go.Proofs.Tryd.prog E S 36 ps_soft_do rs_soft_do x y := by
  intro x y h
  exact fun_spec E_ok mixed (cs_soft_do_ok S N) (f := 36) (fi := ⟨b_soft_do, 43, Go.Proofs.Tryd.f36.results.toList⟩) (by kernel_rfl) (ls := [l_soft_do_0 N]) (.cons (by kernel_rfl) (g_soft_do_0_ok S N N) (.nil)) (by kernel_rfl) (ps := ps_soft_do) (rs := rs_soft_do) (Eq.trans (b := F_soft_do N x.1 x.2.1) (by kernel_rfl) h)

/-! lodge/soft.Softmax -/

abbrev ps_soft_Softmax : List Ty := [(.st (.pair (.st (.pair (.sl (.int .i64)) .bool)) (.sl (.int .i64)))), (.st (.pair (.st (.pair (.sl (.int .i64)) .bool)) (.sl (.int .i64))))]
abbrev rs_soft_Softmax : List Slot := [.ag [.d (.sl (.int .i64)), .d .bool, .sl (.int .i64)], .data .err]
abbrev cs_soft_Softmax (N : Nat) : List CallSpec := [c_soft_do N]
noncomputable abbrev b_soft_Softmax : Code := (Go.Proofs.Tryd.f15.body).getD .skip

def F_soft_Softmax (N : Nat) (a_0 : ((List Int × Bool) × List Int)) (table_1 : ((List Int × Bool) × List Int)) : Option ((List Int × (Bool × (List Int × Unit))) × (Er × Unit)) :=
  Option.bind (F_soft_do N (16 : Int) (a_0 :: (table_1 :: ([] : List (((List Int) × Bool) × (List Int)))))) fun y0 =>
  cond (decide ((List.length ((((y0).1).2).2).1) = (List.length ((((y0).1).2).2).1)))
    (
    some y0)
    (
    none)

abbrev c_soft_Softmax (N : Nat) : CallSpec := ⟨15, ps_soft_Softmax, rs_soft_Softmax, fun x => F_soft_Softmax N x.1 x.2.1⟩

theorem cs_soft_Softmax_ok (S : Nat → Addr) (N : Nat) : CallsOK Go.Proofs.Tryd.prog E S (cs_soft_Softmax N) :=
  .cons (F_soft_do_ok S N) (.nil)
theorem F_soft_Softmax_ok (S : Nat → Addr) (N : Nat) : ∀ x y, (c_soft_Softmax N).g x = some y → FCon Go.Proofs.Tryd.prog E S 15 ps_soft_Softmax rs_soft_Softmax x y := by
  intro x y h
  exact fun_spec E_ok mixed (cs_soft_Softmax_ok S N) (f := 15) (fi := ⟨b_soft_Softmax, 12, Go.Proofs.Tryd.f15.results.toList⟩) (by kernel_rfl) (ls := []) (.nil) (by kernel_rfl) (ps := ps_soft_Softmax) (rs := rs_soft_Softmax) (Eq.trans (b := F_soft_Softmax N x.1 x.2.1) (by kernel_rfl) h)

/-! lodge/lodgeref.SameInts -/

abbrev ps_lodgeref_SameInts : List Ty := [(.sl (.int .i64)), (.sl (.int .i64))]
abbrev rs_lodgeref_SameInts : List Slot := [.data .bool]
abbrev cs_lodgeref_SameInts (N : Nat) : List CallSpec := []
noncomputable abbrev b_lodgeref_SameInts : Code := (Go.Proofs.Tryd.f29.body).getD .skip

abbrev h_lodgeref_SameInts_0 : List Slot := [.data (.sl (.int .i64)), .data (.sl (.int .i64)), .dead, .dead, .dead, .data (.int .i64), .dead, .dead, .dead, .dead, .dead, .dead, .dead, .dead, .dead, .dead, .dead, .dead, .dead, .dead, .dead, .dead, .dead, .dead, .dead, .dead, .dead, .dead, .dead]
abbrev e_lodgeref_SameInts_0 : List (AX × List Slot) := [(AX.exit 0, [.dead, .dead, .dead, .dead, .dead, .dead, .dead, .dead, .dead, .dead, .dead, .dead, .dead, .dead, .dead, .dead, .dead, .dead, .dead, .dead, .dead, .dead, .dead, .dead, .dead, .dead, .dead, .dead, .dead]), (AX.ret, [.dead, .dead, .dead, .dead, .data .bool, .dead, .dead, .dead, .dead, .dead, .dead, .dead, .dead, .dead, .dead, .dead, .dead, .dead, .dead, .dead, .dead, .dead, .dead, .dead, .dead, .dead, .dead, .dead, .dead])]
def g_lodgeref_SameInts_0 (N : Nat) : Nat → List Int → List Int → Int → Option (Sum Unit (Bool × Unit))
  | 0, _, _, _ => none
  | n + 1, a_0, b_1, i_5 =>
    cond (decide (i_5 < (Nat.cast (List.length a_0) : Int)))
      (
      cond (decide ((0 : Int) ≤ i_5))
        (
        cond (decide ((Int.toNat i_5) < (List.length a_0)))
          (
          cond (decide ((0 : Int) ≤ i_5))
            (
            cond (decide ((Int.toNat i_5) < (List.length b_1)))
              (
              cond (Bool.not (decide ((List.getD a_0 (Int.toNat i_5) (0 : Int)) = (List.getD b_1 (Int.toNat i_5) (0 : Int)))))
                (
                some (Sum.inr (false, ())))
                (
                (g_lodgeref_SameInts_0 N n a_0 b_1 (wi64 (i_5 + (1 : Int))))))
              (
              none))
            (
            none))
          (
          none))
        (
        none))
      (
      some (Sum.inl ()))

def F_lodgeref_SameInts (N : Nat) (a_0 : List Int) (b_1 : List Int) : Option (Bool × Unit) :=
  cond (decide (@Ne Int (Nat.cast (List.length a_0) : Int) (Nat.cast (List.length b_1) : Int)))
    (
    some (false, ()))
    (
    Option.bind (g_lodgeref_SameInts_0 N N a_0 b_1 (0 : Int)) fun y0 =>
    Sum.elim (fun y1 =>
      some (true, ()))
      (fun y2 =>
      some y2) y0)

abbrev c_lodgeref_SameInts (N : Nat) : CallSpec := ⟨29, ps_lodgeref_SameInts, rs_lodgeref_SameInts, fun x => F_lodgeref_SameInts N x.1 x.2.1⟩
abbrev l_lodgeref_SameInts_0 (N : Nat) : LoopSpec := ⟨0, h_lodgeref_SameInts_0, e_lodgeref_SameInts_0, fun x => g_lodgeref_SameInts_0 N N x.1 x.2.1 x.2.2.1⟩

theorem cs_lodgeref_SameInts_ok (S : Nat → Addr) (N : Nat) : CallsOK Go.Proofs.Tryd.prog E S (cs_lodgeref_SameInts N) :=
  .nil
noncomputable abbrev b_lodgeref_SameInts_0 : Code := (loopsOf b_lodgeref_SameInts).getD 0 .skip
theorem g_lodgeref_SameInts_0_ok (S : Nat → Addr) (N : Nat) : ∀ n x y, (fun (x : Val (slotsTy h_lodgeref_SameInts_0)) => g_lodgeref_SameInts_0 N n x.1 x.2.1 x.2.2.1) x = some y → LoopCon Go.Proofs.Tryd.prog E S b_lodgeref_SameInts_0 (encSlots h_lodgeref_SameInts_0 x) (encEx e_lodgeref_SameInts_0 y).1 (encEx e_lodgeref_SameInts_0 y).2 :=
  loop_spec E_ok mixed (cs_lodgeref_SameInts_ok S N) (all := loopsOf b_lodgeref_SameInts) (ls := []) (.nil) (i := 0) (by kernel_rfl) (inner_of (by kernel_rfl)) (head := h_lodgeref_SameInts_0) (ex := e_lodgeref_SameInts_0) (fun n (x : Val (slotsTy h_lodgeref_SameInts_0)) => g_lodgeref_SameInts_0 N n x.1 x.2.1 x.2.2.1) (fun _ => rfl) (fun n x => by kernel_rfl)
theorem F_lodgeref_SameInts_ok (S : Nat → Addr) (N : Nat) : ∀ x y, (c_lodgeref_SameInts N).g x = some y → FCon Go.Proofs.Tryd.prog E S 29 ps_lodgeref_SameInts rs_lodgeref_SameInts x y := by
  intro x y h
  exact fun_spec E_ok mixed (cs_lodgeref_SameInts_ok S N) (f := 29) (fi := ⟨b_lodgeref_SameInts, 29, Go.Proofs.Tryd.f29.results.toList⟩) (by kernel_rfl) (ls := [l_lodgeref_SameInts_0 N]) (.cons (by kernel_rfl) (g_lodgeref_SameInts_0_ok S N N) (.nil)) (by kernel_rfl) (ps := ps_lodgeref_SameInts) (rs := rs_lodgeref_SameInts) (Eq.trans (b := F_lodgeref_SameInts N x.1 x.2.1) (by kernel_rfl) h)

/-! lodge/lodgelaw11.first -/

abbrev ps_lodgelaw11_first : List Ty := []
abbrev rs_lodgelaw11_first : List Slot := [.data .bool]
abbrev cs_lodgelaw11_first (N : Nat) : List CallSpec := [c_soft_Table N, c_soft_Softmax N, c_lodgeref_SameInts N]
noncomputable abbrev b_lodgelaw11_first : Code := (Go.Proofs.Tryd.f9.body).getD .skip

def F_lodgelaw11_first (N : Nat)  : Option (Bool × Unit) :=
  Option.bind (F_soft_Table N (4602678819172646912 : Nat)) fun y0 =>
  cond (decide (((0 : Nat) + (List.length ((y0).1).1)) ≤ (List.length ((y0).1).1)))
    (
    cond (decide (((0 : Nat) + (List.length ((((y0).1).2).2).1)) ≤ (List.length ((((y0).1).2).2).1)))
      (
      Option.bind (F_soft_Softmax N ((((2 : Int) :: ([] : List Int)), false), ((0 : Int) :: ((0 : Int) :: ([] : List Int)))) (((List.take (List.length ((y0).1).1) ((y0).1).1), (((y0).1).2).1), (List.take (List.length ((((y0).1).2).2).1) ((((y0).1).2).2).1))) fun y1 =>
      cond (Go.Eng.Er.isNil ((y0).2).1)
        (
        cond (Go.Eng.Er.isNil ((y1).2).1)
          (
          cond (decide (((0 : Nat) + (List.length ((((y1).1).2).2).1)) ≤ (List.length ((((y1).1).2).2).1)))
            (
            Option.bind (F_lodgeref_SameInts N (List.take (List.length ((((y1).1).2).2).1) ((((y1).1).2).2).1) ((0 : Int) :: ((0 : Int) :: ([] : List Int)))) fun y2 =>
            some y2)
            (
            none))
          (
          some (false, ())))
        (
        some (false, ())))
      (
      none))
    (
    none)

abbrev c_lodgelaw11_first (N : Nat) : CallSpec := ⟨9, ps_lodgelaw11_first, rs_lodgelaw11_first, fun x => F_lodgelaw11_first N ⟩

theorem cs_lodgelaw11_first_ok (S : Nat → Addr) (N : Nat) : CallsOK Go.Proofs.Tryd.prog E S (cs_lodgelaw11_first N) :=
  .cons (F_soft_Table_ok S N) (.cons (F_soft_Softmax_ok S N) (.cons (F_lodgeref_SameInts_ok S N) (.nil)))
theorem F_lodgelaw11_first_ok (S : Nat → Addr) (N : Nat) : ∀ x y, (c_lodgelaw11_first N).g x = some y → FCon Go.Proofs.Tryd.prog E S 9 ps_lodgelaw11_first rs_lodgelaw11_first x y := by
  intro x y h
  exact fun_spec E_ok mixed (cs_lodgelaw11_first_ok S N) (f := 9) (fi := ⟨b_lodgelaw11_first, 32, Go.Proofs.Tryd.f9.results.toList⟩) (by kernel_rfl) (ls := []) (.nil) (by kernel_rfl) (ps := ps_lodgelaw11_first) (rs := rs_lodgelaw11_first) (Eq.trans (b := F_lodgelaw11_first N ) (by kernel_rfl) h)

/-! lodge/lodgeworld.Number -/

abbrev ps_lodgeworld_Number : List Ty := [(.int .i64), (.int .i64)]
abbrev rs_lodgeworld_Number : List Slot := [.data (.int .i64)]
abbrev cs_lodgeworld_Number (N : Nat) : List CallSpec := []
noncomputable abbrev b_lodgeworld_Number : Code := (Go.Proofs.Tryd.f14.body).getD .skip

def F_lodgeworld_Number (N : Nat) (n_0 : Int) (below_1 : Int) : Option (Int × Unit) :=
  cond (decide (@Ne Int below_1 (0 : Int)))
    (
    cond (decide (@Ne Int below_1 (0 : Int)))
      (
      some ((Int.tmod (wi64 ((Int.tmod n_0 below_1) + below_1)) below_1), ()))
      (
      none))
    (
    none)

abbrev c_lodgeworld_Number (N : Nat) : CallSpec := ⟨14, ps_lodgeworld_Number, rs_lodgeworld_Number, fun x => F_lodgeworld_Number N x.1 x.2.1⟩

theorem cs_lodgeworld_Number_ok (S : Nat → Addr) (N : Nat) : CallsOK Go.Proofs.Tryd.prog E S (cs_lodgeworld_Number N) :=
  .nil
theorem F_lodgeworld_Number_ok (S : Nat → Addr) (N : Nat) : ∀ x y, (c_lodgeworld_Number N).g x = some y → FCon Go.Proofs.Tryd.prog E S 14 ps_lodgeworld_Number rs_lodgeworld_Number x y := by
  intro x y h
  exact fun_spec E_ok mixed (cs_lodgeworld_Number_ok S N) (f := 14) (fi := ⟨b_lodgeworld_Number, 12, Go.Proofs.Tryd.f14.results.toList⟩) (by kernel_rfl) (ls := []) (.nil) (by kernel_rfl) (ps := ps_lodgeworld_Number) (rs := rs_lodgeworld_Number) (Eq.trans (b := F_lodgeworld_Number N x.1 x.2.1) (by kernel_rfl) h)

/-! lodge/lodgelaw11.SoftNothing -/

abbrev ps_lodgelaw11_SoftNothing : List Ty := [(.sl (.int .i64)), (.int .i64)]
abbrev rs_lodgelaw11_SoftNothing : List Slot := [.data .bool]
abbrev cs_lodgelaw11_SoftNothing (N : Nat) : List CallSpec := [c_soft_Softmax N, c_lodgelaw11_first N, c_lodgeworld_Number N]
noncomputable abbrev b_lodgelaw11_SoftNothing : Code := (Go.Proofs.Tryd.f4.body).getD .skip

abbrev h_lodgelaw11_SoftNothing_0 : List Slot := [.data (.sl (.int .i64)), .data (.int .i64), .dead, .dead, .dead, .dead, .box [.sl (.int .i64), .d .bool, .sl (.int .i64)], .data (.int .i64), .dead, .dead, .dead, .dead, .dead, .dead, .dead, .dead, .dead, .dead, .dead, .dead, .dead, .dead, .dead, .dead, .dead, .dead, .dead, .dead, .dead, .dead, .dead, .dead, .dead, .dead, .dead, .dead, .dead, .dead, .dead, .dead, .dead, .dead, .dead, .dead, .dead, .dead, .dead, .dead, .dead, .dead, .dead, .dead, .dead, .dead, .dead, .dead, .dead, .dead, .dead, .dead, .dead, .dead, .dead, .dead, .dead, .dead, .dead, .dead, .dead, .dead, .dead, .dead, .dead, .dead, .dead, .dead, .dead, .dead, .dead, .dead, .dead, .dead, .dead, .dead, .dead, .dead, .dead, .dead, .dead, .dead, .dead, .dead, .dead, .dead, .dead, .dead, .dead, .dead, .dead, .dead, .dead, .dead, .dead, .dead, .dead, .dead]
abbrev e_lodgelaw11_SoftNothing_0 : List (AX × List Slot) := [(AX.exit 0, [.data (.sl (.int .i64)), .data (.int .i64), .dead, .dead, .dead, .dead, .box [.sl (.int .i64), .d .bool, .sl (.int .i64)], .dead, .dead, .dead, .dead, .dead, .dead, .dead, .dead, .dead, .dead, .dead, .dead, .dead, .dead, .dead, .dead, .dead, .dead, .dead, .dead, .dead, .dead, .dead, .dead, .dead, .dead, .dead, .dead, .dead, .dead, .dead, .dead, .dead, .dead, .dead, .dead, .dead, .dead, .dead, .dead, .dead, .dead, .dead, .dead, .dead, .dead, .dead, .dead, .dead, .dead, .dead, .dead, .dead, .dead, .dead, .dead, .dead, .dead, .dead, .dead, .dead, .dead, .dead, .dead, .dead, .dead, .dead, .dead, .dead, .dead, .dead, .dead, .dead, .dead, .dead, .dead, .dead, .dead, .dead, .dead, .dead, .dead, .dead, .dead, .dead, .dead, .dead, .dead, .dead, .dead, .dead, .dead, .dead, .dead, .dead, .dead, .dead, .dead, .dead])]
def g_lodgelaw11_SoftNothing_0 (N : Nat) : Nat → List Int → Int → (List Int × (Bool × (List Int × Unit))) → Int → Option (List Int × (Int × ((List Int × (Bool × (List Int × Unit))) × Unit)))
  | 0, _, _, _, _ => none
  | n + 1, l_0, v_1, a_6, i_7 =>
    cond (decide (i_7 < (Nat.cast (List.length l_0) : Int)))
      (
      cond (decide ((0 : Int) ≤ i_7))
        (
        cond (decide ((Int.toNat i_7) < (List.length l_0)))
          (
          Option.bind (F_lodgeworld_Number N (List.getD l_0 (Int.toNat i_7) (0 : Int)) (256 : Int)) fun y2 =>
          cond (decide (((0 : Nat) + (List.length (((a_6).2).2).1)) = (List.length (((a_6).2).2).1)))
            (
            cond (decide ((((List.length (((a_6).2).2).1) + 1) * (8 + (1 : Nat))) ≤ Go.Eng.most))
              (
              cond (decide ((List.length (a_6).1) = (List.length (a_6).1)))
                (
                cond (decide (((List.length (((a_6).2).2).1) + 1) = (List.length ((List.take (List.length (((a_6).2).2).1) (((a_6).2).2).1) ++ ((wi64 ((y2).1 - (128 : Int))) :: ([] : List Int))))))
                  (
                  (g_lodgelaw11_SoftNothing_0 N n l_0 v_1 ((a_6).1, (((a_6).2).1, (((List.take (List.length (((a_6).2).2).1) (((a_6).2).2).1) ++ ((wi64 ((y2).1 - (128 : Int))) :: ([] : List Int))), ()))) (wi64 (i_7 + (1 : Int)))))
                  (
                  none))
                (
                none))
              (
              none))
            (
            none))
          (
          none))
        (
        none))
      (
      cond (decide ((List.length (a_6).1) = (List.length (a_6).1)))
        (
        cond (decide ((List.length (((a_6).2).2).1) = (List.length (((a_6).2).2).1)))
          (
          some (l_0, (v_1, (a_6, ()))))
          (
          none))
        (
        none))

abbrev h_lodgelaw11_SoftNothing_1 : List Slot := [.data (.sl (.int .i64)), .data (.int .i64), .dead, .dead, .dead, .dead, .box [.sl (.int .i64), .d .bool, .sl (.int .i64)], .dead, .box [.sl (.int .i64), .d .bool, .sl (.int .i64)], .data (.int .i64), .dead, .dead, .dead, .dead, .dead, .dead, .dead, .dead, .dead, .dead, .dead, .dead, .dead, .dead, .dead, .dead, .dead, .dead, .dead, .dead, .dead, .dead, .dead, .dead, .dead, .dead, .dead, .dead, .dead, .dead, .dead, .dead, .dead, .dead, .dead, .dead, .dead, .dead, .dead, .dead, .dead, .dead, .dead, .dead, .dead, .dead, .dead, .dead, .dead, .dead, .dead, .dead, .dead, .dead, .dead, .dead, .dead, .dead, .dead, .dead, .dead, .dead, .dead, .dead, .dead, .dead, .dead, .dead, .dead, .dead, .dead, .dead, .dead, .dead, .dead, .dead, .dead, .dead, .dead, .dead, .dead, .dead, .dead, .dead, .dead, .dead, .dead, .dead, .dead, .dead, .dead, .dead, .dead, .dead, .dead, .dead]
abbrev e_lodgelaw11_SoftNothing_1 : List (AX × List Slot) := [(AX.exit 2, [.data (.sl (.int .i64)), .data (.int .i64), .dead, .dead, .dead, .dead, .box [.sl (.int .i64), .d .bool, .sl (.int .i64)], .dead, .box [.sl (.int .i64), .d .bool, .sl (.int .i64)], .dead, .dead, .dead, .dead, .dead, .dead, .dead, .dead, .dead, .dead, .dead, .dead, .dead, .dead, .dead, .dead, .dead, .dead, .dead, .dead, .dead, .dead, .dead, .dead, .dead, .dead, .dead, .dead, .dead, .dead, .dead, .dead, .dead, .dead, .dead, .dead, .dead, .dead, .dead, .dead, .dead, .dead, .dead, .dead, .dead, .dead, .dead, .dead, .dead, .dead, .dead, .dead, .dead, .dead, .dead, .dead, .dead, .dead, .dead, .dead, .dead, .dead, .dead, .dead, .dead, .dead, .dead, .dead, .dead, .dead, .dead, .dead, .dead, .dead, .dead, .dead, .dead, .dead, .dead, .dead, .dead, .dead, .dead, .dead, .dead, .dead, .dead, .dead, .dead, .dead, .dead, .dead, .dead, .dead, .dead, .dead, .dead])]
def g_lodgelaw11_SoftNothing_1 (N : Nat) : Nat → List Int → Int → (List Int × (Bool × (List Int × Unit))) → (List Int × (Bool × (List Int × Unit))) → Int → Option (List Int × (Int × ((List Int × (Bool × (List Int × Unit))) × ((List Int × (Bool × (List Int × Unit))) × Unit))))
  | 0, _, _, _, _, _ => none
  | n + 1, l_0, v_1, a_6, t_8, i_9 =>
    cond (decide (i_9 < (256 : Int)))
      (
      cond (decide ((0 : Int) ≤ i_9))
        (
        cond (decide ((Int.toNat i_9) < (List.length (((t_8).2).2).1)))
          (
          cond (decide (((0 : Nat) + (Int.toNat i_9)) < (List.length (((t_8).2).2).1)))
            (
            cond (decide ((List.length (a_6).1) = (List.length (a_6).1)))
              (
              cond (decide ((List.length (((a_6).2).2).1) = (List.length (((a_6).2).2).1)))
                (
                cond (decide ((List.length (t_8).1) = (List.length (t_8).1)))
                  (
                  cond (decide ((List.length (((t_8).2).2).1) = (List.length (List.set (((t_8).2).2).1 ((0 : Nat) + (Int.toNat i_9)) v_1))))
                    (
                    (g_lodgelaw11_SoftNothing_1 N n l_0 v_1 a_6 ((t_8).1, (((t_8).2).1, ((List.set (((t_8).2).2).1 ((0 : Nat) + (Int.toNat i_9)) v_1), ()))) (wi64 (i_9 + (1 : Int)))))
                    (
                    none))
                  (
                  none))
                (
                none))
              (
              none))
            (
            none))
          (
          none))
        (
        none))
      (
      cond (decide ((List.length (a_6).1) = (List.length (a_6).1)))
        (
        cond (decide ((List.length (((a_6).2).2).1) = (List.length (((a_6).2).2).1)))
          (
          cond (decide ((List.length (t_8).1) = (List.length (t_8).1)))
            (
            cond (decide ((List.length (((t_8).2).2).1) = (List.length (((t_8).2).2).1)))
              (
              some (l_0, (v_1, (a_6, (t_8, ())))))
              (
              none))
            (
            none))
          (
          none))
        (
        none))

abbrev h_lodgelaw11_SoftNothing_2 : List Slot := [.data (.sl (.int .i64)), .dead, .dead, .dead, .dead, .dead, .dead, .dead, .dead, .dead, .box [.d (.sl (.int .i64)), .d .bool, .sl (.int .i64)], .dead, .data (.int .i64), .dead, .data (.int .i64), .dead, .dead, .dead, .dead, .dead, .dead, .dead, .dead, .dead, .dead, .dead, .dead, .dead, .dead, .dead, .dead, .dead, .dead, .dead, .dead, .dead, .dead, .dead, .dead, .dead, .dead, .dead, .dead, .dead, .dead, .dead, .dead, .dead, .dead, .dead, .dead, .dead, .dead, .dead, .dead, .dead, .dead, .dead, .dead, .dead, .dead, .dead, .dead, .dead, .dead, .dead, .dead, .dead, .dead, .dead, .dead, .dead, .dead, .dead, .dead, .dead, .dead, .dead, .dead, .dead, .dead, .dead, .dead, .dead, .dead, .dead, .dead, .dead, .dead, .dead, .dead, .dead, .dead, .dead, .dead, .dead, .dead, .dead, .dead, .dead, .dead, .dead, .dead, .dead, .dead, .dead]
abbrev e_lodgelaw11_SoftNothing_2 : List (AX × List Slot) := [(AX.exit 4, [.dead, .dead, .dead, .dead, .dead, .dead, .dead, .dead, .dead, .dead, .dead, .dead, .dead, .dead, .dead, .dead, .dead, .dead, .dead, .dead, .dead, .dead, .dead, .dead, .dead, .dead, .dead, .dead, .dead, .dead, .dead, .dead, .dead, .dead, .dead, .dead, .dead, .dead, .dead, .dead, .dead, .dead, .dead, .dead, .dead, .dead, .dead, .dead, .dead, .dead, .dead, .dead, .dead, .dead, .dead, .dead, .dead, .dead, .dead, .dead, .dead, .dead, .dead, .dead, .dead, .dead, .dead, .dead, .dead, .dead, .dead, .dead, .dead, .dead, .dead, .dead, .dead, .dead, .dead, .dead, .dead, .dead, .dead, .dead, .dead, .dead, .dead, .dead, .dead, .dead, .dead, .dead, .dead, .dead, .dead, .dead, .dead, .dead, .dead, .dead, .dead, .dead, .dead, .dead, .dead, .dead]), (AX.ret, [.dead, .dead, .dead, .dead, .data .bool, .dead, .dead, .dead, .dead, .dead, .dead, .dead, .dead, .dead, .dead, .dead, .dead, .dead, .dead, .dead, .dead, .dead, .dead, .dead, .dead, .dead, .dead, .dead, .dead, .dead, .dead, .dead, .dead, .dead, .dead, .dead, .dead, .dead, .dead, .dead, .dead, .dead, .dead, .dead, .dead, .dead, .dead, .dead, .dead, .dead, .dead, .dead, .dead, .dead, .dead, .dead, .dead, .dead, .dead, .dead, .dead, .dead, .dead, .dead, .dead, .dead, .dead, .dead, .dead, .dead, .dead, .dead, .dead, .dead, .dead, .dead, .dead, .dead, .dead, .dead, .dead, .dead, .dead, .dead, .dead, .dead, .dead, .dead, .dead, .dead, .dead, .dead, .dead, .dead, .dead, .dead, .dead, .dead, .dead, .dead, .dead, .dead, .dead, .dead, .dead, .dead])]
def g_lodgelaw11_SoftNothing_2 (N : Nat) : Nat → List Int → (List Int × (Bool × (List Int × Unit))) → Int → Int → Option (Sum Unit (Bool × Unit))
  | 0, _, _, _, _ => none
  | n + 1, l_0, x_10, want_12, i_14 =>
    cond (decide (i_14 < (Nat.cast (List.length l_0) : Int)))
      (
      cond (decide ((0 : Int) ≤ i_14))
        (
        cond (decide ((Int.toNat i_14) < (List.length (((x_10).2).2).1)))
          (
          cond (decide (((0 : Nat) + (Int.toNat i_14)) < (List.length (((x_10).2).2).1)))
            (
            cond (decide (@Ne Int (List.getD (((x_10).2).2).1 ((0 : Nat) + (Int.toNat i_14)) (0 : Int)) want_12))
              (
              some (Sum.inr (false, ())))
              (
              cond (decide ((List.length (((x_10).2).2).1) = (List.length (((x_10).2).2).1)))
                (
                (g_lodgelaw11_SoftNothing_2 N n l_0 x_10 want_12 (wi64 (i_14 + (1 : Int)))))
                (
                none)))
            (
            none))
          (
          none))
        (
        none))
      (
      some (Sum.inl ()))

def F_lodgelaw11_SoftNothing (N : Nat) (l_0 : List Int) (v_1 : Int) : Option (Bool × Unit) :=
  Option.bind (F_lodgelaw11_first N) fun y0 =>
  cond (Bool.not (y0).1)
    (
    some (false, ()))
    (
    cond (decide ((40 : Int) < (Nat.cast (List.length l_0) : Int)))
      (
      some y0)
      (
      cond (decide ((Nat.cast (List.length l_0) : Int) = (0 : Int)))
        (
        some y0)
        (
        cond (Bool.not (y0).1)
          (
          some y0)
          (
          Option.bind (g_lodgelaw11_SoftNothing_0 N N l_0 v_1 (((Nat.cast (List.length l_0) : Int) :: ([] : List Int)), (false, (([] : List Int), ()))) (0 : Int)) fun y1 =>
          Option.bind (F_lodgeworld_Number N ((y1).2).1 (2147483648 : Int)) fun y2 =>
          cond (decide ((List.length ((((y1).2).2).1).1) = (List.length ((((y1).2).2).1).1)))
            (
            cond (decide ((List.length ((((((y1).2).2).1).2).2).1) = (List.length ((((((y1).2).2).1).2).2).1)))
              (
              Option.bind (g_lodgelaw11_SoftNothing_1 N N (y1).1 (wi64 ((y2).1 - (1073741824 : Int))) (((y1).2).2).1 (((256 : Int) :: ([] : List Int)), (true, ((List.replicate 256 (0 : Int)), ()))) (0 : Int)) fun y3 =>
              cond (decide (((0 : Nat) + (List.length ((((y3).2).2).1).1)) ≤ (List.length ((((y3).2).2).1).1)))
                (
                cond (decide (((0 : Nat) + (List.length ((((((y3).2).2).1).2).2).1)) ≤ (List.length ((((((y3).2).2).1).2).2).1)))
                  (
                  cond (decide (((0 : Nat) + (List.length (((((y3).2).2).2).1).1)) ≤ (List.length (((((y3).2).2).2).1).1)))
                    (
                    cond (decide (((0 : Nat) + (List.length (((((((y3).2).2).2).1).2).2).1)) ≤ (List.length (((((((y3).2).2).2).1).2).2).1)))
                      (
                      Option.bind (F_soft_Softmax N (((List.take (List.length ((((y3).2).2).1).1) ((((y3).2).2).1).1), (((((y3).2).2).1).2).1), (List.take (List.length ((((((y3).2).2).1).2).2).1) ((((((y3).2).2).1).2).2).1)) (((List.take (List.length (((((y3).2).2).2).1).1) (((((y3).2).2).2).1).1), ((((((y3).2).2).2).1).2).1), (List.take (List.length (((((((y3).2).2).2).1).2).2).1) (((((((y3).2).2).2).1).2).2).1))) fun y4 =>
                      cond (Bool.not (Go.Eng.Er.isNil ((y4).2).1))
                        (
                        some (false, ()))
                        (
                        cond (decide ((0 : Int) < ((y3).2).1))
                          (
                          cond (decide (@Ne Int (wi64 ((Nat.cast (List.length (y3).1) : Int) * ((y3).2).1)) (0 : Int)))
                            (
                            cond (decide ((List.length ((((y4).1).2).2).1) = (List.length ((((y4).1).2).2).1)))
                              (
                              Option.bind (g_lodgelaw11_SoftNothing_2 N N (y3).1 (y4).1 (wi64 ((wi64 (Int.tdiv (wi64 ((wi64 ((255 : Int) * ((y3).2).1)) + (wi64 (Int.tdiv (wi64 ((Nat.cast (List.length (y3).1) : Int) * ((y3).2).1)) (2 : Int))))) (wi64 ((Nat.cast (List.length (y3).1) : Int) * ((y3).2).1)))) - (128 : Int))) (0 : Int)) fun y5 =>
                              Sum.elim (fun y6 =>
                                some (true, ()))
                                (fun y7 =>
                                some y7) y5)
                              (
                              none))
                            (
                            none))
                          (
                          cond (decide ((List.length ((((y4).1).2).2).1) = (List.length ((((y4).1).2).2).1)))
                            (
                            Option.bind (g_lodgelaw11_SoftNothing_2 N N (y3).1 (y4).1 (-(128 : Int)) (0 : Int)) fun y8 =>
                            Sum.elim (fun y9 =>
                              some (true, ()))
                              (fun y10 =>
                              some y10) y8)
                            (
                            none))))
                      (
                      none))
                    (
                    none))
                  (
                  none))
                (
                none))
              (
              none))
            (
            none)))))

abbrev c_lodgelaw11_SoftNothing (N : Nat) : CallSpec := ⟨4, ps_lodgelaw11_SoftNothing, rs_lodgelaw11_SoftNothing, fun x => F_lodgelaw11_SoftNothing N x.1 x.2.1⟩
abbrev l_lodgelaw11_SoftNothing_2 (N : Nat) : LoopSpec := ⟨2, h_lodgelaw11_SoftNothing_2, e_lodgelaw11_SoftNothing_2, fun x => g_lodgelaw11_SoftNothing_2 N N x.1 x.2.1 x.2.2.1 x.2.2.2.1⟩
abbrev l_lodgelaw11_SoftNothing_1 (N : Nat) : LoopSpec := ⟨1, h_lodgelaw11_SoftNothing_1, e_lodgelaw11_SoftNothing_1, fun x => g_lodgelaw11_SoftNothing_1 N N x.1 x.2.1 x.2.2.1 x.2.2.2.1 x.2.2.2.2.1⟩
abbrev l_lodgelaw11_SoftNothing_0 (N : Nat) : LoopSpec := ⟨0, h_lodgelaw11_SoftNothing_0, e_lodgelaw11_SoftNothing_0, fun x => g_lodgelaw11_SoftNothing_0 N N x.1 x.2.1 x.2.2.1 x.2.2.2.1⟩

theorem cs_lodgelaw11_SoftNothing_ok (S : Nat → Addr) (N : Nat) : CallsOK Go.Proofs.Tryd.prog E S (cs_lodgelaw11_SoftNothing N) :=
  .cons (F_soft_Softmax_ok S N) (.cons (F_lodgelaw11_first_ok S N) (.cons (F_lodgeworld_Number_ok S N) (.nil)))
noncomputable abbrev b_lodgelaw11_SoftNothing_2 : Code := (loopsOf b_lodgelaw11_SoftNothing).getD 2 .skip
theorem g_lodgelaw11_SoftNothing_2_ok (S : Nat → Addr) (N : Nat) : ∀ n x y, (fun (x : Val (slotsTy h_lodgelaw11_SoftNothing_2)) => g_lodgelaw11_SoftNothing_2 N n x.1 x.2.1 x.2.2.1 x.2.2.2.1) x = some y → LoopCon Go.Proofs.Tryd.prog E S b_lodgelaw11_SoftNothing_2 (encSlots h_lodgelaw11_SoftNothing_2 x) (encEx e_lodgelaw11_SoftNothing_2 y).1 (encEx e_lodgelaw11_SoftNothing_2 y).2 :=
  loop_spec E_ok mixed (cs_lodgelaw11_SoftNothing_ok S N) (all := loopsOf b_lodgelaw11_SoftNothing) (ls := []) (.nil) (i := 2) (by kernel_rfl) (inner_of (by kernel_rfl)) (head := h_lodgelaw11_SoftNothing_2) (ex := e_lodgelaw11_SoftNothing_2) (fun n (x : Val (slotsTy h_lodgelaw11_SoftNothing_2)) => g_lodgelaw11_SoftNothing_2 N n x.1 x.2.1 x.2.2.1 x.2.2.2.1) (fun _ => rfl) (fun n x => by kernel_rfl)
noncomputable abbrev b_lodgelaw11_SoftNothing_1 : Code := (loopsOf b_lodgelaw11_SoftNothing).getD 1 .skip
theorem g_lodgelaw11_SoftNothing_1_ok (S : Nat → Addr) (N : Nat) : ∀ n x y, (fun (x : Val (slotsTy h_lodgelaw11_SoftNothing_1)) => g_lodgelaw11_SoftNothing_1 N n x.1 x.2.1 x.2.2.1 x.2.2.2.1 x.2.2.2.2.1) x = some y → LoopCon Go.Proofs.Tryd.prog E S b_lodgelaw11_SoftNothing_1 (encSlots h_lodgelaw11_SoftNothing_1 x) (encEx e_lodgelaw11_SoftNothing_1 y).1 (encEx e_lodgelaw11_SoftNothing_1 y).2 :=
  loop_spec E_ok mixed (cs_lodgelaw11_SoftNothing_ok S N) (all := loopsOf b_lodgelaw11_SoftNothing) (ls := []) (.nil) (i := 1) (by kernel_rfl) (inner_of (by kernel_rfl)) (head := h_lodgelaw11_SoftNothing_1) (ex := e_lodgelaw11_SoftNothing_1) (fun n (x : Val (slotsTy h_lodgelaw11_SoftNothing_1)) => g_lodgelaw11_SoftNothing_1 N n x.1 x.2.1 x.2.2.1 x.2.2.2.1 x.2.2.2.2.1) (fun _ => rfl) (fun n x => by kernel_rfl)
noncomputable abbrev b_lodgelaw11_SoftNothing_0 : Code := (loopsOf b_lodgelaw11_SoftNothing).getD 0 .skip
theorem g_lodgelaw11_SoftNothing_0_ok (S : Nat → Addr) (N : Nat) : ∀ n x y, (fun (x : Val (slotsTy h_lodgelaw11_SoftNothing_0)) => g_lodgelaw11_SoftNothing_0 N n x.1 x.2.1 x.2.2.1 x.2.2.2.1) x = some y → LoopCon Go.Proofs.Tryd.prog E S b_lodgelaw11_SoftNothing_0 (encSlots h_lodgelaw11_SoftNothing_0 x) (encEx e_lodgelaw11_SoftNothing_0 y).1 (encEx e_lodgelaw11_SoftNothing_0 y).2 :=
  loop_spec E_ok mixed (cs_lodgelaw11_SoftNothing_ok S N) (all := loopsOf b_lodgelaw11_SoftNothing) (ls := []) (.nil) (i := 0) (by kernel_rfl) (inner_of (by kernel_rfl)) (head := h_lodgelaw11_SoftNothing_0) (ex := e_lodgelaw11_SoftNothing_0) (fun n (x : Val (slotsTy h_lodgelaw11_SoftNothing_0)) => g_lodgelaw11_SoftNothing_0 N n x.1 x.2.1 x.2.2.1 x.2.2.2.1) (fun _ => rfl) (fun n x => by kernel_rfl)
theorem F_lodgelaw11_SoftNothing_ok (S : Nat → Addr) (N : Nat) : ∀ x y, (c_lodgelaw11_SoftNothing N).g x = some y → FCon Go.Proofs.Tryd.prog E S 4 ps_lodgelaw11_SoftNothing rs_lodgelaw11_SoftNothing x y := by
  intro x y h
  exact fun_spec E_ok mixed (cs_lodgelaw11_SoftNothing_ok S N) (f := 4) (fi := ⟨b_lodgelaw11_SoftNothing, 106, Go.Proofs.Tryd.f4.results.toList⟩) (by kernel_rfl) (ls := [l_lodgelaw11_SoftNothing_2 N, l_lodgelaw11_SoftNothing_1 N, l_lodgelaw11_SoftNothing_0 N]) (.cons (by kernel_rfl) (g_lodgelaw11_SoftNothing_2_ok S N N) (.cons (by kernel_rfl) (g_lodgelaw11_SoftNothing_1_ok S N N) (.cons (by kernel_rfl) (g_lodgelaw11_SoftNothing_0_ok S N N) (.nil)))) (by kernel_rfl) (ps := ps_lodgelaw11_SoftNothing) (rs := rs_lodgelaw11_SoftNothing) (Eq.trans (b := F_lodgelaw11_SoftNothing N x.1 x.2.1) (by kernel_rfl) h)

/-! lodge/lodgeref.Ints -/

abbrev ps_lodgeref_Ints : List Ty := [(.sl (.int .i64))]
abbrev rs_lodgeref_Ints : List Slot := [.sl (.int .i64)]
abbrev cs_lodgeref_Ints (N : Nat) : List CallSpec := []
noncomputable abbrev b_lodgeref_Ints : Code := (Go.Proofs.Tryd.f38.body).getD .skip

abbrev h_lodgeref_Ints_0 : List Slot := [.data (.sl (.int .i64)), .dead, .dead, .sl (.int .i64), .data (.int .i64), .dead, .dead, .dead, .dead, .dead, .dead, .dead, .dead, .dead, .dead, .dead, .dead, .dead, .dead, .dead, .dead, .dead]
abbrev e_lodgeref_Ints_0 : List (AX × List Slot) := [(AX.exit 0, [.dead, .dead, .dead, .sl (.int .i64), .dead, .dead, .dead, .dead, .dead, .dead, .dead, .dead, .dead, .dead, .dead, .dead, .dead, .dead, .dead, .dead, .dead, .dead])]
def g_lodgeref_Ints_0 (N : Nat) : Nat → List Int → List Int → Int → Option (List Int × Unit)
  | 0, _, _, _ => none
  | n + 1, l_0, out_3, i_4 =>
    cond (decide (i_4 < (Nat.cast (List.length l_0) : Int)))
      (
      cond (decide ((0 : Int) ≤ i_4))
        (
        cond (decide ((Int.toNat i_4) < (List.length l_0)))
          (
          cond (decide (((0 : Nat) + (List.length out_3)) = (List.length out_3)))
            (
            cond (decide ((((List.length out_3) + 1) * (8 + (1 : Nat))) ≤ Go.Eng.most))
              (
              cond (decide (((List.length out_3) + 1) = (List.length ((List.take (List.length out_3) out_3) ++ ((List.getD l_0 (Int.toNat i_4) (0 : Int)) :: ([] : List Int))))))
                (
                (g_lodgeref_Ints_0 N n l_0 ((List.take (List.length out_3) out_3) ++ ((List.getD l_0 (Int.toNat i_4) (0 : Int)) :: ([] : List Int))) (wi64 (i_4 + (1 : Int)))))
                (
                none))
              (
              none))
            (
            none))
          (
          none))
        (
        none))
      (
      cond (decide ((List.length out_3) = (List.length out_3)))
        (
        some (out_3, ()))
        (
        none))

def F_lodgeref_Ints (N : Nat) (l_0 : List Int) : Option (List Int × Unit) :=
  cond (decide (((Nat.cast (List.length l_0) : Int) * ((Nat.cast 8 : Int) + (1 : Int))) ≤ (Nat.cast Go.Eng.most : Int)))
    (
    Option.bind (g_lodgeref_Ints_0 N N l_0 (List.replicate 0 (0 : Int)) (0 : Int)) fun y0 =>
    cond (decide ((List.length (y0).1) = (List.length (y0).1)))
      (
      some y0)
      (
      none))
    (
    none)

abbrev c_lodgeref_Ints (N : Nat) : CallSpec := ⟨38, ps_lodgeref_Ints, rs_lodgeref_Ints, fun x => F_lodgeref_Ints N x.1⟩
abbrev l_lodgeref_Ints_0 (N : Nat) : LoopSpec := ⟨0, h_lodgeref_Ints_0, e_lodgeref_Ints_0, fun x => g_lodgeref_Ints_0 N N x.1 x.2.1 x.2.2.1⟩

theorem cs_lodgeref_Ints_ok (S : Nat → Addr) (N : Nat) : CallsOK Go.Proofs.Tryd.prog E S (cs_lodgeref_Ints N) :=
  .nil
noncomputable abbrev b_lodgeref_Ints_0 : Code := (loopsOf b_lodgeref_Ints).getD 0 .skip
theorem g_lodgeref_Ints_0_ok (S : Nat → Addr) (N : Nat) : ∀ n x y, (fun (x : Val (slotsTy h_lodgeref_Ints_0)) => g_lodgeref_Ints_0 N n x.1 x.2.1 x.2.2.1) x = some y → LoopCon Go.Proofs.Tryd.prog E S b_lodgeref_Ints_0 (encSlots h_lodgeref_Ints_0 x) (encEx e_lodgeref_Ints_0 y).1 (encEx e_lodgeref_Ints_0 y).2 :=
  loop_spec E_ok mixed (cs_lodgeref_Ints_ok S N) (all := loopsOf b_lodgeref_Ints) (ls := []) (.nil) (i := 0) (by kernel_rfl) (inner_of (by kernel_rfl)) (head := h_lodgeref_Ints_0) (ex := e_lodgeref_Ints_0) (fun n (x : Val (slotsTy h_lodgeref_Ints_0)) => g_lodgeref_Ints_0 N n x.1 x.2.1 x.2.2.1) (fun _ => rfl) (fun n x => by kernel_rfl)
theorem F_lodgeref_Ints_ok (S : Nat → Addr) (N : Nat) : ∀ x y, (c_lodgeref_Ints N).g x = some y → FCon Go.Proofs.Tryd.prog E S 38 ps_lodgeref_Ints rs_lodgeref_Ints x y := by
  intro x y h
  exact fun_spec E_ok mixed (cs_lodgeref_Ints_ok S N) (f := 38) (fi := ⟨b_lodgeref_Ints, 22, Go.Proofs.Tryd.f38.results.toList⟩) (by kernel_rfl) (ls := [l_lodgeref_Ints_0 N]) (.cons (by kernel_rfl) (g_lodgeref_Ints_0_ok S N N) (.nil)) (by kernel_rfl) (ps := ps_lodgeref_Ints) (rs := rs_lodgeref_Ints) (Eq.trans (b := F_lodgeref_Ints N x.1) (by kernel_rfl) h)

/-! lodge/lodgeref.Desc -/

abbrev ps_lodgeref_Desc : List Ty := [(.st (.pair (.sl (.int .i64)) .bool))]
abbrev rs_lodgeref_Desc : List Slot := [.ag [.sl (.int .i64), .d .bool]]
abbrev cs_lodgeref_Desc (N : Nat) : List CallSpec := [c_lodgeref_Ints N]
noncomputable abbrev b_lodgeref_Desc : Code := (Go.Proofs.Tryd.f37.body).getD .skip

def F_lodgeref_Desc (N : Nat) (a_0 : (List Int × Bool)) : Option ((List Int × (Bool × Unit)) × Unit) :=
  Option.bind (F_lodgeref_Ints N (a_0).1) fun y0 =>
  cond (decide ((List.length (y0).1) = (List.length (y0).1)))
    (
    some (((y0).1, ((a_0).2, ())), ()))
    (
    none)

abbrev c_lodgeref_Desc (N : Nat) : CallSpec := ⟨37, ps_lodgeref_Desc, rs_lodgeref_Desc, fun x => F_lodgeref_Desc N x.1⟩

theorem cs_lodgeref_Desc_ok (S : Nat → Addr) (N : Nat) : CallsOK Go.Proofs.Tryd.prog E S (cs_lodgeref_Desc N) :=
  .cons (F_lodgeref_Ints_ok S N) (.nil)
theorem F_lodgeref_Desc_ok (S : Nat → Addr) (N : Nat) : ∀ x y, (c_lodgeref_Desc N).g x = some y → FCon Go.Proofs.Tryd.prog E S 37 ps_lodgeref_Desc rs_lodgeref_Desc x y := by
  intro x y h
  exact fun_spec E_ok mixed (cs_lodgeref_Desc_ok S N) (f := 37) (fi := ⟨b_lodgeref_Desc, 9, Go.Proofs.Tryd.f37.results.toList⟩) (by kernel_rfl) (ls := []) (.nil) (by kernel_rfl) (ps := ps_lodgeref_Desc) (rs := rs_lodgeref_Desc) (Eq.trans (b := F_lodgeref_Desc N x.1) (by kernel_rfl) h)

/-! lodge/lodgeref.Tensor -/

abbrev ps_lodgeref_Tensor : List Ty := [(.st (.pair (.st (.pair (.sl (.int .i64)) .bool)) (.sl (.int .i64))))]
abbrev rs_lodgeref_Tensor : List Slot := [.ag [.sl (.int .i64), .d .bool, .sl (.int .i64)]]
abbrev cs_lodgeref_Tensor (N : Nat) : List CallSpec := [c_lodgeref_Ints N, c_lodgeref_Desc N]
noncomputable abbrev b_lodgeref_Tensor : Code := (Go.Proofs.Tryd.f16.body).getD .skip

def F_lodgeref_Tensor (N : Nat) (a_0 : ((List Int × Bool) × List Int)) : Option ((List Int × (Bool × (List Int × Unit))) × Unit) :=
  Option.bind (F_lodgeref_Desc N (a_0).1) fun y0 =>
  Option.bind (F_lodgeref_Ints N (a_0).2) fun y1 =>
  cond (decide ((List.length ((y0).1).1) = (List.length ((y0).1).1)))
    (
    cond (decide ((List.length (y1).1) = (List.length (y1).1)))
      (
      some ((((y0).1).1, ((((y0).1).2).1, y1)), ()))
      (
      none))
    (
    none)

abbrev c_lodgeref_Tensor (N : Nat) : CallSpec := ⟨16, ps_lodgeref_Tensor, rs_lodgeref_Tensor, fun x => F_lodgeref_Tensor N x.1⟩

theorem cs_lodgeref_Tensor_ok (S : Nat → Addr) (N : Nat) : CallsOK Go.Proofs.Tryd.prog E S (cs_lodgeref_Tensor N) :=
  .cons (F_lodgeref_Ints_ok S N) (.cons (F_lodgeref_Desc_ok S N) (.nil))
theorem F_lodgeref_Tensor_ok (S : Nat → Addr) (N : Nat) : ∀ x y, (c_lodgeref_Tensor N).g x = some y → FCon Go.Proofs.Tryd.prog E S 16 ps_lodgeref_Tensor rs_lodgeref_Tensor x y := by
  intro x y h
  exact fun_spec E_ok mixed (cs_lodgeref_Tensor_ok S N) (f := 16) (fi := ⟨b_lodgeref_Tensor, 10, Go.Proofs.Tryd.f16.results.toList⟩) (by kernel_rfl) (ls := []) (.nil) (by kernel_rfl) (ps := ps_lodgeref_Tensor) (rs := rs_lodgeref_Tensor) (Eq.trans (b := F_lodgeref_Tensor N x.1) (by kernel_rfl) h)

/-! lodge/soft.ArgMax -/

abbrev ps_soft_ArgMax : List Ty := [(.st (.pair (.st (.pair (.sl (.int .i64)) .bool)) (.sl (.int .i64))))]
abbrev rs_soft_ArgMax : List Slot := [.ag [.d (.sl (.int .i64)), .d .bool, .sl (.int .i64)], .data .err]
abbrev cs_soft_ArgMax (N : Nat) : List CallSpec := [c_soft_do N]
noncomputable abbrev b_soft_ArgMax : Code := (Go.Proofs.Tryd.f17.body).getD .skip

def F_soft_ArgMax (N : Nat) (a_0 : ((List Int × Bool) × List Int)) : Option ((List Int × (Bool × (List Int × Unit))) × (Er × Unit)) :=
  Option.bind (F_soft_do N (19 : Int) (a_0 :: ([] : List (((List Int) × Bool) × (List Int))))) fun y0 =>
  cond (decide ((List.length ((((y0).1).2).2).1) = (List.length ((((y0).1).2).2).1)))
    (
    some y0)
    (
    none)

abbrev c_soft_ArgMax (N : Nat) : CallSpec := ⟨17, ps_soft_ArgMax, rs_soft_ArgMax, fun x => F_soft_ArgMax N x.1⟩

theorem cs_soft_ArgMax_ok (S : Nat → Addr) (N : Nat) : CallsOK Go.Proofs.Tryd.prog E S (cs_soft_ArgMax N) :=
  .cons (F_soft_do_ok S N) (.nil)
theorem F_soft_ArgMax_ok (S : Nat → Addr) (N : Nat) : ∀ x y, (c_soft_ArgMax N).g x = some y → FCon Go.Proofs.Tryd.prog E S 17 ps_soft_ArgMax rs_soft_ArgMax x y := by
  intro x y h
  exact fun_spec E_ok mixed (cs_soft_ArgMax_ok S N) (f := 17) (fi := ⟨b_soft_ArgMax, 9, Go.Proofs.Tryd.f17.results.toList⟩) (by kernel_rfl) (ls := []) (.nil) (by kernel_rfl) (ps := ps_soft_ArgMax) (rs := rs_soft_ArgMax) (Eq.trans (b := F_soft_ArgMax N x.1) (by kernel_rfl) h)

/-! lodge/lodgeref.SameDesc -/

abbrev ps_lodgeref_SameDesc : List Ty := [(.st (.pair (.sl (.int .i64)) .bool)), (.st (.pair (.sl (.int .i64)) .bool))]
abbrev rs_lodgeref_SameDesc : List Slot := [.data .bool]
abbrev cs_lodgeref_SameDesc (N : Nat) : List CallSpec := [c_lodgeref_SameInts N]
noncomputable abbrev b_lodgeref_SameDesc : Code := (Go.Proofs.Tryd.f26.body).getD .skip

def F_lodgeref_SameDesc (N : Nat) (a_0 : (List Int × Bool)) (b_1 : (List Int × Bool)) : Option (Bool × Unit) :=
  Option.bind (F_lodgeref_SameInts N (a_0).1 (b_1).1) fun y0 =>
  cond (y0).1
    (
    some (((a_0).2 == (b_1).2), ()))
    (
    some (false, ()))

abbrev c_lodgeref_SameDesc (N : Nat) : CallSpec := ⟨26, ps_lodgeref_SameDesc, rs_lodgeref_SameDesc, fun x => F_lodgeref_SameDesc N x.1 x.2.1⟩

theorem cs_lodgeref_SameDesc_ok (S : Nat → Addr) (N : Nat) : CallsOK Go.Proofs.Tryd.prog E S (cs_lodgeref_SameDesc N) :=
  .cons (F_lodgeref_SameInts_ok S N) (.nil)
theorem F_lodgeref_SameDesc_ok (S : Nat → Addr) (N : Nat) : ∀ x y, (c_lodgeref_SameDesc N).g x = some y → FCon Go.Proofs.Tryd.prog E S 26 ps_lodgeref_SameDesc rs_lodgeref_SameDesc x y := by
  intro x y h
  exact fun_spec E_ok mixed (cs_lodgeref_SameDesc_ok S N) (f := 26) (fi := ⟨b_lodgeref_SameDesc, 19, Go.Proofs.Tryd.f26.results.toList⟩) (by kernel_rfl) (ls := []) (.nil) (by kernel_rfl) (ps := ps_lodgeref_SameDesc) (rs := rs_lodgeref_SameDesc) (Eq.trans (b := F_lodgeref_SameDesc N x.1 x.2.1) (by kernel_rfl) h)

/-! lodge/lodgeref.SameTensor -/

abbrev ps_lodgeref_SameTensor : List Ty := [(.st (.pair (.st (.pair (.sl (.int .i64)) .bool)) (.sl (.int .i64)))), (.st (.pair (.st (.pair (.sl (.int .i64)) .bool)) (.sl (.int .i64))))]
abbrev rs_lodgeref_SameTensor : List Slot := [.data .bool]
abbrev cs_lodgeref_SameTensor (N : Nat) : List CallSpec := [c_lodgeref_SameInts N, c_lodgeref_SameDesc N]
noncomputable abbrev b_lodgeref_SameTensor : Code := (Go.Proofs.Tryd.f13.body).getD .skip

def F_lodgeref_SameTensor (N : Nat) (a_0 : ((List Int × Bool) × List Int)) (b_1 : ((List Int × Bool) × List Int)) : Option (Bool × Unit) :=
  Option.bind (F_lodgeref_SameDesc N (a_0).1 (b_1).1) fun y0 =>
  Option.bind (F_lodgeref_SameInts N (a_0).2 (b_1).2) fun y1 =>
  cond (y0).1
    (
    some y1)
    (
    some (false, ()))

abbrev c_lodgeref_SameTensor (N : Nat) : CallSpec := ⟨13, ps_lodgeref_SameTensor, rs_lodgeref_SameTensor, fun x => F_lodgeref_SameTensor N x.1 x.2.1⟩

theorem cs_lodgeref_SameTensor_ok (S : Nat → Addr) (N : Nat) : CallsOK Go.Proofs.Tryd.prog E S (cs_lodgeref_SameTensor N) :=
  .cons (F_lodgeref_SameInts_ok S N) (.cons (F_lodgeref_SameDesc_ok S N) (.nil))
theorem F_lodgeref_SameTensor_ok (S : Nat → Addr) (N : Nat) : ∀ x y, (c_lodgeref_SameTensor N).g x = some y → FCon Go.Proofs.Tryd.prog E S 13 ps_lodgeref_SameTensor rs_lodgeref_SameTensor x y := by
  intro x y h
  exact fun_spec E_ok mixed (cs_lodgeref_SameTensor_ok S N) (f := 13) (fi := ⟨b_lodgeref_SameTensor, 21, Go.Proofs.Tryd.f13.results.toList⟩) (by kernel_rfl) (ls := []) (.nil) (by kernel_rfl) (ps := ps_lodgeref_SameTensor) (rs := rs_lodgeref_SameTensor) (Eq.trans (b := F_lodgeref_SameTensor N x.1 x.2.1) (by kernel_rfl) h)


end Go.Proofs.YtohkmbpdjigjdaaDoor.Lg
