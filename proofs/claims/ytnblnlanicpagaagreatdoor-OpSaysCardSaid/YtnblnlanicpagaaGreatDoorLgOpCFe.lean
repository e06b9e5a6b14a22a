/-
  The functions of the seat's program, as plain functions.
-/
import Derived.Test.YtnblnlanicpagaaGreatDoorLgOpCFd
namespace Go.Proofs.YtnblnlanicpagaaGreatDoor.Lg
open Go Go.Eng Go.Proofs
set_option maxRecDepth 100000

/-! lodge/pool.At -/

abbrev ps_pool_At : List Ty := [.bool, (.sl (.int .i64)), (.sl (.int .i64)), (.clo 55 (.ref (.st (.pair (.st (.pair (.sl (.int .i64)) .bool)) (.sl (.int .i64)))))), (.int .i64), (.int .i64)]
abbrev rs_pool_At : List Slot := [.data (.int .i64)]
abbrev cs_pool_At (N : Nat) : List CallSpec := [c_op_reads_1 N, c_pool_floor N]
noncomputable abbrev b_pool_At : Code := (Go.Proofs.Tryz.f59.body).getD .skip

abbrev h_pool_At_1 : List Slot := [.data .bool, .dead, .data (.sl (.int .i64)), .data (.clo 55 (.ref (.st (.pair (.st (.pair (.sl (.int .i64)) .bool)) (.sl (.int .i64)))))), .dead, .dead, .dead, .dead, .dead, .dead, .dead, .dead, .dead, .data (.int .i64), .data (.int .i64), .data (.int .i64), .data (.int .i64), .data (.int .i64), .data (.int .i64), .data (.int .i64), .data (.int .i64), .data (.int .i64), .data (.int .i64), .dead, .dead, .dead, .dead, .dead, .dead, .dead, .dead, .dead, .dead, .dead, .dead, .dead, .dead, .dead, .dead, .dead, .dead, .dead, .dead, .dead, .dead, .dead, .dead, .dead, .dead, .dead, .dead, .dead, .dead, .dead, .dead, .dead, .dead, .dead, .dead, .dead, .dead, .dead, .dead, .dead, .dead, .dead, .dead, .dead, .dead, .dead, .dead, .dead, .dead, .dead, .dead, .dead, .dead, .dead, .dead, .dead, .dead, .dead, .dead, .dead, .dead, .dead, .dead, .dead, .dead, .dead, .dead, .dead, .dead, .dead, .dead, .dead, .dead, .dead, .dead, .dead, .dead, .dead, .dead, .dead, .dead, .dead, .dead, .dead, .dead, .dead, .dead, .dead, .dead]
abbrev e_pool_At_1 : List (AX × List Slot) := [(AX.exit 1, [.data .bool, .dead, .data (.sl (.int .i64)), .data (.clo 55 (.ref (.st (.pair (.st (.pair (.sl (.int .i64)) .bool)) (.sl (.int .i64)))))), .dead, .dead, .dead, .dead, .dead, .dead, .dead, .dead, .dead, .data (.int .i64), .data (.int .i64), .data (.int .i64), .data (.int .i64), .data (.int .i64), .data (.int .i64), .data (.int .i64), .data (.int .i64), .data (.int .i64), .dead, .dead, .dead, .dead, .dead, .dead, .dead, .dead, .dead, .dead, .dead, .dead, .dead, .dead, .dead, .dead, .dead, .dead, .dead, .dead, .dead, .dead, .dead, .dead, .dead, .dead, .dead, .dead, .dead, .dead, .dead, .dead, .dead, .dead, .dead, .dead, .dead, .dead, .dead, .dead, .dead, .dead, .dead, .dead, .dead, .dead, .dead, .dead, .dead, .dead, .dead, .dead, .dead, .dead, .dead, .dead, .dead, .dead, .dead, .dead, .dead, .dead, .dead, .dead, .dead, .dead, .dead, .dead, .dead, .dead, .dead, .dead, .dead, .dead, .dead, .dead, .dead, .dead, .dead, .dead, .dead, .dead, .dead, .dead, .dead, .dead, .dead, .dead, .dead, .dead, .dead])]
def g_pool_At_1 (N : Nat) : Nat → Bool → List Int → ((List Int × Bool) × List Int) → Int → Int → Int → Int → Int → Int → Int → Int → Int → Int → Option (Bool × (List Int × (((List Int × Bool) × List Int) × (Int × (Int × (Int × (Int × (Int × (Int × (Int × (Int × (Int × Unit))))))))))))
  | 0, _, _, _, _, _, _, _, _, _, _, _, _, _ => none
  | n + 1, avg_0, a_2, get_3, size_13, stride_14, c_15, ch_16, x_17, y_18, best_19, sum_20, dy_21, dx_22 =>
    cond (decide (dx_22 = size_13))
      (
      some (avg_0, (a_2, (get_3, (size_13, (stride_14, (c_15, (ch_16, (x_17, (y_18, (best_19, (sum_20, ((wi64 (dy_21 + (1 : Int))), ())))))))))))))
      (
      cond (decide (1 < (List.length a_2)))
        (
        Option.bind (F_op_reads_1 N (wi64 ((wi64 ((wi64 ((wi64 ((wi64 ((wi64 ((wi64 (y_18 * stride_14)) + dy_21)) * (List.getD a_2 1 (0 : Int)))) + (wi64 (x_17 * stride_14)))) + dx_22)) * c_15)) + ch_16)) get_3) fun y2 =>
        (g_pool_At_1 N n avg_0 a_2 get_3 size_13 stride_14 c_15 ch_16 x_17 y_18 (Go.Eng.imax best_19 (y2).1) (wi64 (sum_20 + (y2).1)) dy_21 (wi64 (dx_22 + (1 : Int)))))
        (
        none))

abbrev h_pool_At_0 : List Slot := [.data .bool, .dead, .data (.sl (.int .i64)), .data (.clo 55 (.ref (.st (.pair (.st (.pair (.sl (.int .i64)) .bool)) (.sl (.int .i64)))))), .dead, .dead, .dead, .dead, .dead, .dead, .dead, .dead, .dead, .data (.int .i64), .data (.int .i64), .data (.int .i64), .data (.int .i64), .data (.int .i64), .data (.int .i64), .data (.int .i64), .data (.int .i64), .data (.int .i64), .dead, .dead, .dead, .dead, .dead, .dead, .dead, .dead, .dead, .dead, .dead, .dead, .dead, .dead, .dead, .dead, .dead, .dead, .dead, .dead, .dead, .dead, .dead, .dead, .dead, .dead, .dead, .dead, .dead, .dead, .dead, .dead, .dead, .dead, .dead, .dead, .dead, .dead, .dead, .dead, .dead, .dead, .dead, .dead, .dead, .dead, .dead, .dead, .dead, .dead, .dead, .dead, .dead, .dead, .dead, .dead, .dead, .dead, .dead, .dead, .dead, .dead, .dead, .dead, .dead, .dead, .dead, .dead, .dead, .dead, .dead, .dead, .dead, .dead, .dead, .dead, .dead, .dead, .dead, .dead, .dead, .dead, .dead, .dead, .dead, .dead, .dead, .dead, .dead, .dead, .dead]
abbrev e_pool_At_0 : List (AX × List Slot) := [(AX.exit 0, [.data .bool, .dead, .dead, .dead, .dead, .dead, .dead, .dead, .dead, .dead, .dead, .dead, .dead, .data (.int .i64), .dead, .dead, .dead, .dead, .dead, .data (.int .i64), .data (.int .i64), .dead, .dead, .dead, .dead, .dead, .dead, .dead, .dead, .dead, .dead, .dead, .dead, .dead, .dead, .dead, .dead, .dead, .dead, .dead, .dead, .dead, .dead, .dead, .dead, .dead, .dead, .dead, .dead, .dead, .dead, .dead, .dead, .dead, .dead, .dead, .dead, .dead, .dead, .dead, .dead, .dead, .dead, .dead, .dead, .dead, .dead, .dead, .dead, .dead, .dead, .dead, .dead, .dead, .dead, .dead, .dead, .dead, .dead, .dead, .dead, .dead, .dead, .dead, .dead, .dead, .dead, .dead, .dead, .dead, .dead, .dead, .dead, .dead, .dead, .dead, .dead, .dead, .dead, .dead, .dead, .dead, .dead, .dead, .dead, .dead, .dead, .dead, .dead, .dead, .dead, .dead, .dead])]
def g_pool_At_0 (N : Nat) : Nat → Bool → List Int → ((List Int × Bool) × List Int) → Int → Int → Int → Int → Int → Int → Int → Int → Int → Option (Bool × (Int × (Int × (Int × Unit))))
  | 0, _, _, _, _, _, _, _, _, _, _, _, _ => none
  | n + 1, avg_0, a_2, get_3, size_13, stride_14, c_15, ch_16, x_17, y_18, best_19, sum_20, dy_21 =>
    cond (decide (dy_21 < size_13))
      (
      Option.bind (g_pool_At_1 N N avg_0 a_2 get_3 size_13 stride_14 c_15 ch_16 x_17 y_18 best_19 sum_20 dy_21 (0 : Int)) fun y4 =>
      (g_pool_At_0 N n (y4).1 ((y4).2).1 (((y4).2).2).1 ((((y4).2).2).2).1 (((((y4).2).2).2).2).1 ((((((y4).2).2).2).2).2).1 (((((((y4).2).2).2).2).2).2).1 ((((((((y4).2).2).2).2).2).2).2).1 (((((((((y4).2).2).2).2).2).2).2).2).1 ((((((((((y4).2).2).2).2).2).2).2).2).2).1 (((((((((((y4).2).2).2).2).2).2).2).2).2).2).1 ((((((((((((y4).2).2).2).2).2).2).2).2).2).2).2).1))
      (
      some (avg_0, (size_13, (best_19, (sum_20, ())))))

def F_pool_At (N : Nat) (avg_0 : Bool) (args_1 : List Int) (a_2 : List Int) (get_3 : ((List Int × Bool) × List Int)) (i_4 : Int) (ow_5 : Int) : Option (Int × Unit) :=
  cond (decide (0 < (List.length args_1)))
    (
    cond (decide (1 < (List.length args_1)))
      (
      cond (decide (2 < (List.length a_2)))
        (
        cond (decide (@Ne Int (List.getD a_2 2 (0 : Int)) (0 : Int)))
          (
          cond (decide (@Ne Int (List.getD a_2 2 (0 : Int)) (0 : Int)))
            (
            cond (decide (@Ne Int ow_5 (0 : Int)))
              (
              cond (decide (@Ne Int (List.getD a_2 2 (0 : Int)) (0 : Int)))
                (
                cond (decide (@Ne Int ow_5 (0 : Int)))
                  (
                  cond (decide (1 < (List.length a_2)))
                    (
                    Option.bind (F_op_reads_1 N (wi64 ((wi64 ((wi64 ((wi64 ((wi64 ((wi64 (Int.tdiv (wi64 (Int.tdiv i_4 (List.getD a_2 2 (0 : Int)))) ow_5)) * (List.getD args_1 1 (0 : Int)))) * (List.getD a_2 1 (0 : Int)))) + (wi64 ((Int.tmod (wi64 (Int.tdiv i_4 (List.getD a_2 2 (0 : Int)))) ow_5) * (List.getD args_1 1 (0 : Int)))))) * (List.getD a_2 2 (0 : Int)))) + (Int.tmod i_4 (List.getD a_2 2 (0 : Int))))) get_3) fun y0 =>
                    Option.bind (g_pool_At_0 N N avg_0 a_2 get_3 (List.getD args_1 0 (0 : Int)) (List.getD args_1 1 (0 : Int)) (List.getD a_2 2 (0 : Int)) (Int.tmod i_4 (List.getD a_2 2 (0 : Int))) (Int.tmod (wi64 (Int.tdiv i_4 (List.getD a_2 2 (0 : Int)))) ow_5) (wi64 (Int.tdiv (wi64 (Int.tdiv i_4 (List.getD a_2 2 (0 : Int)))) ow_5)) (y0).1 (0 : Int) (0 : Int)) fun y1 =>
                    cond (y1).1
                      (
                      Option.bind (F_pool_floor N (wi64 ((wi64 ((2 : Int) * ((((y1).2).2).2).1)) + (wi64 (((y1).2).1 * ((y1).2).1)))) (wi64 ((2 : Int) * (wi64 (((y1).2).1 * ((y1).2).1))))) fun y2 =>
                      some y2)
                      (
                      some ((((y1).2).2).1, ())))
                    (
                    none))
                  (
                  none))
                (
                none))
              (
              none))
            (
            none))
          (
          none))
        (
        none))
      (
      none))
    (
    none)

abbrev c_pool_At (N : Nat) : CallSpec := ⟨59, ps_pool_At, rs_pool_At, fun x => F_pool_At N x.1 x.2.1 x.2.2.1 x.2.2.2.1 x.2.2.2.2.1 x.2.2.2.2.2.1⟩
abbrev l_pool_At_1 (N : Nat) : LoopSpec := ⟨1, h_pool_At_1, e_pool_At_1, fun x => g_pool_At_1 N N x.1 x.2.1 x.2.2.1 x.2.2.2.1 x.2.2.2.2.1 x.2.2.2.2.2.1 x.2.2.2.2.2.2.1 x.2.2.2.2.2.2.2.1 x.2.2.2.2.2.2.2.2.1 x.2.2.2.2.2.2.2.2.2.1 x.2.2.2.2.2.2.2.2.2.2.1 x.2.2.2.2.2.2.2.2.2.2.2.1 x.2.2.2.2.2.2.2.2.2.2.2.2.1⟩
abbrev l_pool_At_0 (N : Nat) : LoopSpec := ⟨0, h_pool_At_0, e_pool_At_0, fun x => g_pool_At_0 N N x.1 x.2.1 x.2.2.1 x.2.2.2.1 x.2.2.2.2.1 x.2.2.2.2.2.1 x.2.2.2.2.2.2.1 x.2.2.2.2.2.2.2.1 x.2.2.2.2.2.2.2.2.1 x.2.2.2.2.2.2.2.2.2.1 x.2.2.2.2.2.2.2.2.2.2.1 x.2.2.2.2.2.2.2.2.2.2.2.1⟩

theorem cs_pool_At_ok (S : Nat → Addr) (N : Nat) : CallsOK Go.Proofs.Tryz.prog E S (cs_pool_At N) :=
  .cons (F_op_reads_1_ok S N) (.cons (F_pool_floor_ok S N) (.nil))
noncomputable abbrev b_pool_At_1 : Code := (loopsOf b_pool_At).getD 1 .skip
theorem g_pool_At_1_ok (S : Nat → Addr) (N : Nat) : ∀ n x y, (fun (x : Val (slotsTy h_pool_At_1)) => g_pool_At_1 N n x.1 x.2.1 x.2.2.1 x.2.2.2.1 x.2.2.2.2.1 x.2.2.2.2.2.1 x.2.2.2.2.2.2.1 x.2.2.2.2.2.2.2.1 x.2.2.2.2.2.2.2.2.1 x.2.2.2.2.2.2.2.2.2.1 x.2.2.2.2.2.2.2.2.2.2.1 x.2.2.2.2.2.2.2.2.2.2.2.1 x.2.2.2.2.2.2.2.2.2.2.2.2.1) x = some y → LoopCon Go.Proofs.Tryz.prog E S b_pool_At_1 (encSlots h_pool_At_1 x) (encEx e_pool_At_1 y).1 (encEx e_pool_At_1 y).2 :=
  loop_spec E_ok mixed (cs_pool_At_ok S N) (all := loopsOf b_pool_At) (ls := []) (.nil) (i := 1) (by kernel_rfl) (inner_of (by kernel_rfl)) (head := h_pool_At_1) (ex := e_pool_At_1) (fun n (x : Val (slotsTy h_pool_At_1)) => g_pool_At_1 N n x.1 x.2.1 x.2.2.1 x.2.2.2.1 x.2.2.2.2.1 x.2.2.2.2.2.1 x.2.2.2.2.2.2.1 x.2.2.2.2.2.2.2.1 x.2.2.2.2.2.2.2.2.1 x.2.2.2.2.2.2.2.2.2.1 x.2.2.2.2.2.2.2.2.2.2.1 x.2.2.2.2.2.2.2.2.2.2.2.1 x.2.2.2.2.2.2.2.2.2.2.2.2.1) (fun _ => rfl) (fun n x => by kernel_rfl)
noncomputable abbrev b_pool_At_0 : Code := (loopsOf b_pool_At).getD 0 .skip
theorem g_pool_At_0_ok (S : Nat → Addr) (N : Nat) : ∀ n x y, (fun (x : Val (slotsTy h_pool_At_0)) => g_pool_At_0 N n x.1 x.2.1 x.2.2.1 x.2.2.2.1 x.2.2.2.2.1 x.2.2.2.2.2.1 x.2.2.2.2.2.2.1 x.2.2.2.2.2.2.2.1 x.2.2.2.2.2.2.2.2.1 x.2.2.2.2.2.2.2.2.2.1 x.2.2.2.2.2.2.2.2.2.2.1 x.2.2.2.2.2.2.2.2.2.2.2.1) x = some y → LoopCon Go.Proofs.Tryz.prog E S b_pool_At_0 (encSlots h_pool_At_0 x) (encEx e_pool_At_0 y).1 (encEx e_pool_At_0 y).2 :=
  loop_spec E_ok mixed (cs_pool_At_ok S N) (all := loopsOf b_pool_At) (ls := [l_pool_At_1 N]) (.cons (by kernel_rfl) (g_pool_At_1_ok S N N) (.nil)) (i := 0) (by kernel_rfl) (inner_of (by kernel_rfl)) (head := h_pool_At_0) (ex := e_pool_At_0) (fun n (x : Val (slotsTy h_pool_At_0)) => g_pool_At_0 N n x.1 x.2.1 x.2.2.1 x.2.2.2.1 x.2.2.2.2.1 x.2.2.2.2.2.1 x.2.2.2.2.2.2.1 x.2.2.2.2.2.2.2.1 x.2.2.2.2.2.2.2.2.1 x.2.2.2.2.2.2.2.2.2.1 x.2.2.2.2.2.2.2.2.2.2.1 x.2.2.2.2.2.2.2.2.2.2.2.1) (fun _ => rfl) (fun n x => by kernel_rfl)
theorem F_pool_At_ok (S : Nat → Addr) (N : Nat) : ∀ x y, (c_pool_At N).g x = some y → FCon Go.Proofs.Tryz.prog E S 59 ps_pool_At rs_pool_At x y := by
  intro x y h
  exact fun_spec E_ok mixed (cs_pool_At_ok S N) (f := 59) (fi := ⟨b_pool_At, 113, Go.Proofs.Tryz.f59.results.toList⟩) (by kernel_rfl) (ls := [l_pool_At_1 N, l_pool_At_0 N]) (.cons (by kernel_rfl) (g_pool_At_1_ok S N N) (.cons (by kernel_rfl) (g_pool_At_0_ok S N N) (.nil))) (by kernel_rfl) (ps := ps_pool_At) (rs := rs_pool_At) (Eq.trans (b := F_pool_At N x.1 x.2.1 x.2.2.1 x.2.2.2.1 x.2.2.2.2.1 x.2.2.2.2.2.1) (by kernel_rfl) h)

/-! lodge/soft.softmax$1 -/

abbrev ps_soft_softmax_c1 : List Ty := [(.int .i64), (.ref (.clo 55 (.ref (.st (.pair (.st (.pair (.sl (.int .i64)) .bool)) (.sl (.int .i64))))))), (.ref (.int .i64))]
abbrev rs_soft_softmax_c1 : List Slot := [.data (.int .i64)]
abbrev cs_soft_softmax_c1 (N : Nat) : List CallSpec := [c_op_reads_1 N]
noncomputable abbrev b_soft_softmax_c1 : Code := (Go.Proofs.Tryz.f104.body).getD .skip

def F_soft_softmax_c1 (N : Nat) (x_0 : Int) (t_1 : ((List Int × Bool) × List Int)) (t_2 : Int) : Option (Int × Unit) :=
  Option.bind (F_op_reads_1 N (wi64 (t_2 - x_0)) t_1) fun y0 =>
  some ((Go.Eng.imax (y0).1 (0 : Int)), ())

abbrev c_soft_softmax_c1 (N : Nat) : CallSpec := ⟨104, ps_soft_softmax_c1, rs_soft_softmax_c1, fun x => F_soft_softmax_c1 N x.1 x.2.1 x.2.2.1⟩

theorem cs_soft_softmax_c1_ok (S : Nat → Addr) (N : Nat) : CallsOK Go.Proofs.Tryz.prog E S (cs_soft_softmax_c1 N) :=
  .cons (F_op_reads_1_ok S N) (.nil)
theorem F_soft_softmax_c1_ok (S : Nat → Addr) (N : Nat) : ∀ x y, (c_soft_softmax_c1 N).g x = some y → FCon Go.Proofs.Tryz.prog E S 104 ps_soft_softmax_c1 rs_soft_softmax_c1 x y := by
  intro x y h
  exact fun_spec E_ok mixed (cs_soft_softmax_c1_ok S N) (f := 104) (fi := ⟨b_soft_softmax_c1, 11, Go.Proofs.Tryz.f104.results.toList⟩) (by kernel_rfl) (ls := []) (.nil) (by kernel_rfl) (ps := ps_soft_softmax_c1) (rs := rs_soft_softmax_c1) (Eq.trans (b := F_soft_softmax_c1 N x.1 x.2.1 x.2.2.1) (by kernel_rfl) h)

/-! lodge/soft.softmax -/

abbrev ps_soft_softmax : List Ty := [(.clo 55 (.ref (.st (.pair (.st (.pair (.sl (.int .i64)) .bool)) (.sl (.int .i64)))))), (.clo 55 (.ref (.st (.pair (.st (.pair (.sl (.int .i64)) .bool)) (.sl (.int .i64)))))), (.int .i64), (.int .i64)]
abbrev rs_soft_softmax : List Slot := [.data (.int .i64)]
abbrev cs_soft_softmax (N : Nat) : List CallSpec := [c_op_reads_1 N, c_soft_softmax_c1 N]
noncomputable abbrev b_soft_softmax : Code := (Go.Proofs.Tryz.f87.body).getD .skip

abbrev h_soft_softmax_0 : List Slot := [.data (.clo 55 (.ref (.st (.pair (.st (.pair (.sl (.int .i64)) .bool)) (.sl (.int .i64)))))), .dead, .data (.int .i64), .data (.int .i64), .dead, .box [.d (.clo 55 (.ref (.st (.pair (.st (.pair (.sl (.int .i64)) .bool)) (.sl (.int .i64))))))], .dead, .dead, .dead, .data (.int .i64), .box [.d (.int .i64)], .dead, .dead, .dead, .dead, .dead, .dead, .dead, .dead, .dead, .dead, .dead, .dead, .data (.int .i64), .data (.int .i64), .dead, .dead, .dead, .dead, .dead, .dead, .dead, .dead, .dead, .dead, .dead, .dead, .dead, .dead, .dead, .dead, .dead, .dead, .dead, .dead, .dead, .dead, .dead, .dead, .dead, .dead, .dead, .dead, .dead, .dead, .dead, .dead, .dead, .dead, .dead, .dead, .dead, .dead, .dead]
abbrev e_soft_softmax_0 : List (AX × List Slot) := [(AX.exit 0, [.data (.clo 55 (.ref (.st (.pair (.st (.pair (.sl (.int .i64)) .bool)) (.sl (.int .i64)))))), .dead, .data (.int .i64), .data (.int .i64), .dead, .box [.d (.clo 55 (.ref (.st (.pair (.st (.pair (.sl (.int .i64)) .bool)) (.sl (.int .i64))))))], .dead, .dead, .dead, .data (.int .i64), .box [.d (.int .i64)], .dead, .dead, .dead, .dead, .dead, .dead, .dead, .dead, .dead, .dead, .dead, .dead, .dead, .dead, .dead, .dead, .dead, .dead, .dead, .dead, .dead, .dead, .dead, .dead, .dead, .dead, .dead, .dead, .dead, .dead, .dead, .dead, .dead, .dead, .dead, .dead, .dead, .dead, .dead, .dead, .dead, .dead, .dead, .dead, .dead, .dead, .dead, .dead, .dead, .dead, .dead, .dead, .dead])]
def g_soft_softmax_0 (N : Nat) : Nat → ((List Int × Bool) × List Int) → Int → Int → (((List Int × Bool) × List Int) × Unit) → Int → (Int × Unit) → Int → Int → Option (((List Int × Bool) × List Int) × (Int × (Int × ((((List Int × Bool) × List Int) × Unit) × (Int × ((Int × Unit) × Unit))))))
  | 0, _, _, _, _, _, _, _, _ => none
  | n + 1, a_0, i_2, n_3, t_5, row_9, m_10, t_23, t_24 =>
    cond (decide (t_24 < t_23))
      (
      Option.bind (F_op_reads_1 N (wi64 (row_9 + t_24)) a_0) fun y2 =>
      (g_soft_softmax_0 N n a_0 i_2 n_3 t_5 row_9 ((Go.Eng.imax (m_10).1 (y2).1), ()) t_23 (wi64 (t_24 + (1 : Int)))))
      (
      some (a_0, (i_2, (n_3, (t_5, (row_9, (m_10, ())))))))

abbrev h_soft_softmax_1 : List Slot := [.data (.clo 55 (.ref (.st (.pair (.st (.pair (.sl (.int .i64)) .bool)) (.sl (.int .i64)))))), .dead, .data (.int .i64), .dead, .dead, .dead, .dead, .dead, .dead, .data (.int .i64), .dead, .dead, .data (.clo 104 (.pair (.ref (.clo 55 (.ref (.st (.pair (.st (.pair (.sl (.int .i64)) .bool)) (.sl (.int .i64))))))) (.ref (.int .i64)))), .data (.int .i64), .dead, .dead, .dead, .dead, .dead, .dead, .dead, .dead, .dead, .dead, .dead, .dead, .dead, .dead, .dead, .dead, .dead, .dead, .dead, .dead, .dead, .dead, .data (.int .i64), .data (.int .i64), .dead, .dead, .dead, .dead, .dead, .dead, .dead, .dead, .dead, .dead, .dead, .dead, .dead, .dead, .dead, .dead, .dead, .dead, .dead, .dead, .dead, .dead, .dead, .dead, .dead, .dead]
abbrev e_soft_softmax_1 : List (AX × List Slot) := [(AX.exit 2, [.data (.clo 55 (.ref (.st (.pair (.st (.pair (.sl (.int .i64)) .bool)) (.sl (.int .i64)))))), .dead, .data (.int .i64), .dead, .dead, .dead, .dead, .dead, .dead, .dead, .dead, .dead, .data (.clo 104 (.pair (.ref (.clo 55 (.ref (.st (.pair (.st (.pair (.sl (.int .i64)) .bool)) (.sl (.int .i64))))))) (.ref (.int .i64)))), .data (.int .i64), .dead, .dead, .dead, .dead, .dead, .dead, .dead, .dead, .dead, .dead, .dead, .dead, .dead, .dead, .dead, .dead, .dead, .dead, .dead, .dead, .dead, .dead, .dead, .dead, .dead, .dead, .dead, .dead, .dead, .dead, .dead, .dead, .dead, .dead, .dead, .dead, .dead, .dead, .dead, .dead, .dead, .dead, .dead, .dead, .dead, .dead, .dead, .dead, .dead, .dead])]
def g_soft_softmax_1 (N : Nat) : Nat → ((List Int × Bool) × List Int) → Int → Int → (((List Int × Bool) × List Int) × Int) → Int → Int → Int → Option (((List Int × Bool) × List Int) × (Int × ((((List Int × Bool) × List Int) × Int) × (Int × Unit))))
  | 0, _, _, _, _, _, _, _ => none
  | n + 1, a_0, i_2, row_9, w_12, s_13, t_36, t_37 =>
    cond (decide (t_37 < t_36))
      (
      Option.bind (F_op_reads_1 N (wi64 (row_9 + t_37)) a_0) fun y6 =>
      Option.bind (F_soft_softmax_c1 N (y6).1 (w_12).1 (w_12).2) fun y7 =>
      (g_soft_softmax_1 N n a_0 i_2 row_9 w_12 (wi64 (s_13 + (y7).1)) t_36 (wi64 (t_37 + (1 : Int)))))
      (
      some (a_0, (i_2, (w_12, (s_13, ())))))

def F_soft_softmax (N : Nat) (a_0 : ((List Int × Bool) × List Int)) (t_1 : ((List Int × Bool) × List Int)) (i_2 : Int) (n_3 : Int) : Option (Int × Unit) :=
  cond (decide (@Ne Int n_3 (0 : Int)))
    (
    Option.bind (F_op_reads_1 N (wi64 ((wi64 (Int.tdiv i_2 n_3)) * n_3)) a_0) fun y0 =>
    Option.bind (g_soft_softmax_0 N N a_0 i_2 n_3 (t_1, ()) (wi64 ((wi64 (Int.tdiv i_2 n_3)) * n_3)) y0 n_3 (0 : Int)) fun y1 =>
    Option.bind (g_soft_softmax_1 N N (y1).1 ((y1).2).1 (((((y1).2).2).2).2).1 ((((((y1).2).2).2).1).1, (((((((y1).2).2).2).2).2).1).1) (0 : Int) (((y1).2).2).1 (0 : Int)) fun y2 =>
    cond (decide (((((y2).2).2).2).1 = (0 : Int)))
      (
      some ((-(128 : Int)), ()))
      (
      Option.bind (F_op_reads_1 N ((y2).2).1 (y2).1) fun y3 =>
      Option.bind (F_soft_softmax_c1 N (y3).1 ((((y2).2).2).1).1 ((((y2).2).2).1).2) fun y4 =>
      cond (decide (@Ne Int ((((y2).2).2).2).1 (0 : Int)))
        (
        some ((wi64 ((wi64 (Int.tdiv (wi64 ((wi64 ((255 : Int) * (y4).1)) + (wi64 (Int.tdiv ((((y2).2).2).2).1 (2 : Int))))) ((((y2).2).2).2).1)) + (-(128 : Int)))), ()))
        (
        none)))
    (
    none)

abbrev c_soft_softmax (N : Nat) : CallSpec := ⟨87, ps_soft_softmax, rs_soft_softmax, fun x => F_soft_softmax N x.1 x.2.1 x.2.2.1 x.2.2.2.1⟩
abbrev l_soft_softmax_1 (N : Nat) : LoopSpec := ⟨1, h_soft_softmax_1, e_soft_softmax_1, fun x => g_soft_softmax_1 N N x.1 x.2.1 x.2.2.1 x.2.2.2.1 x.2.2.2.2.1 x.2.2.2.2.2.1 x.2.2.2.2.2.2.1⟩
abbrev l_soft_softmax_0 (N : Nat) : LoopSpec := ⟨0, h_soft_softmax_0, e_soft_softmax_0, fun x => g_soft_softmax_0 N N x.1 x.2.1 x.2.2.1 x.2.2.2.1 x.2.2.2.2.1 x.2.2.2.2.2.1 x.2.2.2.2.2.2.1 x.2.2.2.2.2.2.2.1⟩

theorem cs_soft_softmax_ok (S : Nat → Addr) (N : Nat) : CallsOK Go.Proofs.Tryz.prog E S (cs_soft_softmax N) :=
  .cons (F_op_reads_1_ok S N) (.cons (F_soft_softmax_c1_ok S N) (.nil))
noncomputable abbrev b_soft_softmax_1 : Code := (loopsOf b_soft_softmax).getD 1 .skip
theorem g_soft_softmax_1_ok (S : Nat → Addr) (N : Nat) : ∀ n x y, (fun (x : Val (slotsTy h_soft_softmax_1)) => g_soft_softmax_1 N n x.1 x.2.1 x.2.2.1 x.2.2.2.1 x.2.2.2.2.1 x.2.2.2.2.2.1 x.2.2.2.2.2.2.1) x = some y → LoopCon Go.Proofs.Tryz.prog E S b_soft_softmax_1 (encSlots h_soft_softmax_1 x) (encEx e_soft_softmax_1 y).1 (encEx e_soft_softmax_1 y).2 :=
  loop_spec E_ok mixed (cs_soft_softmax_ok S N) (all := loopsOf b_soft_softmax) (ls := []) (.nil) (i := 1) (by kernel_rfl) (inner_of (by kernel_rfl)) (head := h_soft_softmax_1) (ex := e_soft_softmax_1) (fun n (x : Val (slotsTy h_soft_softmax_1)) => g_soft_softmax_1 N n x.1 x.2.1 x.2.2.1 x.2.2.2.1 x.2.2.2.2.1 x.2.2.2.2.2.1 x.2.2.2.2.2.2.1) (fun _ => rfl) (fun n x => by kernel_rfl)
noncomputable abbrev b_soft_softmax_0 : Code := (loopsOf b_soft_softmax).getD 0 .skip
theorem g_soft_softmax_0_ok (S : Nat → Addr) (N : Nat) : ∀ n x y, (fun (x : Val (slotsTy h_soft_softmax_0)) => g_soft_softmax_0 N n x.1 x.2.1 x.2.2.1 x.2.2.2.1 x.2.2.2.2.1 x.2.2.2.2.2.1 x.2.2.2.2.2.2.1 x.2.2.2.2.2.2.2.1) x = some y → LoopCon Go.Proofs.Tryz.prog E S b_soft_softmax_0 (encSlots h_soft_softmax_0 x) (encEx e_soft_softmax_0 y).1 (encEx e_soft_softmax_0 y).2 :=
  loop_spec E_ok mixed (cs_soft_softmax_ok S N) (all := loopsOf b_soft_softmax) (ls := []) (.nil) (i := 0) (by kernel_rfl) (inner_of (by kernel_rfl)) (head := h_soft_softmax_0) (ex := e_soft_softmax_0) (fun n (x : Val (slotsTy h_soft_softmax_0)) => g_soft_softmax_0 N n x.1 x.2.1 x.2.2.1 x.2.2.2.1 x.2.2.2.2.1 x.2.2.2.2.2.1 x.2.2.2.2.2.2.1 x.2.2.2.2.2.2.2.1) (fun _ => rfl) (fun n x => by kernel_rfl)
theorem F_soft_softmax_ok (S : Nat → Addr) (N : Nat) : ∀ x y, (c_soft_softmax N).g x = some y → FCon Go.Proofs.Tryz.prog E S 87 ps_soft_softmax rs_soft_softmax x y := by
  intro x y h
  exact fun_spec E_ok mixed (cs_soft_softmax_ok S N) (f := 87) (fi := ⟨b_soft_softmax, 64, Go.Proofs.Tryz.f87.results.toList⟩) (by kernel_rfl) (ls := [l_soft_softmax_1 N, l_soft_softmax_0 N]) (.cons (by kernel_rfl) (g_soft_softmax_1_ok S N N) (.cons (by kernel_rfl) (g_soft_softmax_0_ok S N N) (.nil))) (by kernel_rfl) (ps := ps_soft_softmax) (rs := rs_soft_softmax) (Eq.trans (b := F_soft_softmax N x.1 x.2.1 x.2.2.1 x.2.2.2.1) (by kernel_rfl) h)

/-! lodge/soft.At -/

abbrev ps_soft_At : List Ty := [(.int .i64), (.int .i64), (.sl (.st (.pair (.sl (.int .i64)) .bool))), (.sl (.clo 55 (.ref (.st (.pair (.st (.pair (.sl (.int .i64)) .bool)) (.sl (.int .i64)))))))]
abbrev rs_soft_At : List Slot := [.data (.int .i64)]
abbrev cs_soft_At (N : Nat) : List CallSpec := [c_op_reads_1 N, c_tens_Wide N, c_soft_softmax N]
noncomputable abbrev b_soft_At : Code := (Go.Proofs.Tryz.f60.body).getD .skip

abbrev h_soft_At_1 : List Slot := [.dead, .data (.int .i64), .dead, .dead, .dead, .dead, .dead, .dead, .dead, .dead, .data (.int .i64), .data (.clo 55 (.ref (.st (.pair (.st (.pair (.sl (.int .i64)) .bool)) (.sl (.int .i64)))))), .dead, .dead, .data (.int .i64), .dead, .dead, .dead, .dead, .dead, .dead, .dead, .dead, .dead, .dead, .dead, .dead, .dead, .dead, .dead, .dead, .dead, .dead, .dead, .dead, .dead, .dead, .dead, .dead, .dead, .dead, .dead, .dead, .dead, .dead, .dead, .dead, .dead, .dead, .dead, .dead, .dead, .dead, .dead, .dead, .dead, .dead, .dead, .dead, .dead, .dead, .dead, .dead, .dead, .dead, .dead, .data (.int .i64), .data (.int .i64), .dead, .dead, .dead, .dead, .dead, .dead, .dead, .dead, .dead, .dead, .dead, .dead, .dead, .dead, .dead, .dead, .dead, .dead, .dead, .dead, .dead, .dead, .dead, .dead, .dead, .dead, .dead, .dead, .dead, .dead, .dead, .dead, .dead, .dead, .dead, .dead]
abbrev e_soft_At_1 : List (AX × List Slot) := [(AX.exit 3, [.dead, .dead, .dead, .dead, .dead, .dead, .dead, .dead, .dead, .dead, .dead, .dead, .dead, .dead, .data (.int .i64), .dead, .dead, .dead, .dead, .dead, .dead, .dead, .dead, .dead, .dead, .dead, .dead, .dead, .dead, .dead, .dead, .dead, .dead, .dead, .dead, .dead, .dead, .dead, .dead, .dead, .dead, .dead, .dead, .dead, .dead, .dead, .dead, .dead, .dead, .dead, .dead, .dead, .dead, .dead, .dead, .dead, .dead, .dead, .dead, .dead, .dead, .dead, .dead, .dead, .dead, .dead, .dead, .dead, .dead, .dead, .dead, .dead, .dead, .dead, .dead, .dead, .dead, .dead, .dead, .dead, .dead, .dead, .dead, .dead, .dead, .dead, .dead, .dead, .dead, .dead, .dead, .dead, .dead, .dead, .dead, .dead, .dead, .dead, .dead, .dead, .dead, .dead, .dead, .dead])]
def g_soft_At_1 (N : Nat) : Nat → Int → Int → ((List Int × Bool) × List Int) → Int → Int → Int → Option (Int × Unit)
  | 0, _, _, _, _, _, _ => none
  | n + 1, i_1, n_10, get_11, s_14, t_66, t_67 =>
    cond (decide (t_67 < t_66))
      (
      Option.bind (F_op_reads_1 N (wi64 ((wi64 (i_1 * n_10)) + t_67)) get_11) fun y3 =>
      (g_soft_At_1 N n i_1 n_10 get_11 (wi64 (s_14 + (y3).1)) t_66 (wi64 (t_67 + (1 : Int)))))
      (
      some (s_14, ()))

abbrev h_soft_At_0 : List Slot := [.dead, .data (.int .i64), .dead, .dead, .dead, .dead, .dead, .dead, .dead, .dead, .data (.int .i64), .data (.clo 55 (.ref (.st (.pair (.st (.pair (.sl (.int .i64)) .bool)) (.sl (.int .i64)))))), .data (.int .i64), .dead, .dead, .dead, .dead, .dead, .dead, .dead, .dead, .dead, .dead, .dead, .dead, .dead, .dead, .dead, .dead, .dead, .dead, .dead, .dead, .dead, .dead, .dead, .dead, .dead, .dead, .dead, .dead, .dead, .data (.int .i64), .data (.int .i64), .dead, .dead, .dead, .dead, .dead, .dead, .dead, .dead, .dead, .dead, .dead, .dead, .dead, .dead, .dead, .dead, .dead, .dead, .dead, .dead, .dead, .dead, .dead, .dead, .dead, .dead, .dead, .dead, .dead, .dead, .dead, .dead, .dead, .dead, .dead, .dead, .dead, .dead, .dead, .dead, .dead, .dead, .dead, .dead, .dead, .dead, .dead, .dead, .dead, .dead, .dead, .dead, .dead, .dead, .dead, .dead, .dead, .dead, .dead, .dead]
abbrev e_soft_At_0 : List (AX × List Slot) := [(AX.exit 1, [.dead, .dead, .dead, .dead, .dead, .dead, .dead, .dead, .dead, .dead, .dead, .dead, .data (.int .i64), .dead, .dead, .dead, .dead, .dead, .dead, .dead, .dead, .dead, .dead, .dead, .dead, .dead, .dead, .dead, .dead, .dead, .dead, .dead, .dead, .dead, .dead, .dead, .dead, .dead, .dead, .dead, .dead, .dead, .dead, .dead, .dead, .dead, .dead, .dead, .dead, .dead, .dead, .dead, .dead, .dead, .dead, .dead, .dead, .dead, .dead, .dead, .dead, .dead, .dead, .dead, .dead, .dead, .dead, .dead, .dead, .dead, .dead, .dead, .dead, .dead, .dead, .dead, .dead, .dead, .dead, .dead, .dead, .dead, .dead, .dead, .dead, .dead, .dead, .dead, .dead, .dead, .dead, .dead, .dead, .dead, .dead, .dead, .dead, .dead, .dead, .dead, .dead, .dead, .dead, .dead])]
def g_soft_At_0 (N : Nat) : Nat → Int → Int → ((List Int × Bool) × List Int) → Int → Int → Int → Option (Int × Unit)
  | 0, _, _, _, _, _, _ => none
  | n + 1, i_1, n_10, get_11, best_12, t_42, t_43 =>
    cond (decide (t_43 < t_42))
      (
      Option.bind (F_op_reads_1 N (wi64 ((wi64 (i_1 * n_10)) + t_43)) get_11) fun y8 =>
      Option.bind (F_op_reads_1 N (wi64 ((wi64 (i_1 * n_10)) + best_12)) get_11) fun y9 =>
      cond (decide ((y9).1 < (y8).1))
        (
        (g_soft_At_0 N n i_1 n_10 get_11 t_43 t_42 (wi64 (t_43 + (1 : Int)))))
        (
        (g_soft_At_0 N n i_1 n_10 get_11 best_12 t_42 (wi64 (t_43 + (1 : Int))))))
      (
      some (best_12, ()))

def F_soft_At (N : Nat) (op_0 : Int) (i_1 : Int) (descs_2 : List ((List Int × Bool))) (ins_3 : List ((List Int × Bool) × List Int)) : Option (Int × Unit) :=
  cond (decide (0 < (List.length descs_2)))
    (
    cond (decide ((0 : Int) ≤ (wi64 ((Nat.cast (List.length ((List.getD descs_2 0 (([] : List Int), false))).1) : Int) - (1 : Int)))))
      (
      cond (decide ((Int.toNat (wi64 ((Nat.cast (List.length ((List.getD descs_2 0 (([] : List Int), false))).1) : Int) - (1 : Int)))) < (List.length ((List.getD descs_2 0 (([] : List Int), false))).1)))
        (
        cond (decide (0 < (List.length ins_3)))
          (
          cond (decide (op_0 = (16 : Int)))
            (
            cond (decide (1 < (List.length ins_3)))
              (
              Option.bind (F_soft_softmax N (List.getD ins_3 0 ((([] : List Int), false), ([] : List Int))) (List.getD ins_3 1 ((([] : List Int), false), ([] : List Int))) i_1 (List.getD ((List.getD descs_2 0 (([] : List Int), false))).1 (Int.toNat (wi64 ((Nat.cast (List.length ((List.getD descs_2 0 (([] : List Int), false))).1) : Int) - (1 : Int)))) (0 : Int))) fun y0 =>
              some y0)
              (
              none))
            (
            cond (decide (op_0 = (19 : Int)))
              (
              Option.bind (g_soft_At_0 N N i_1 (List.getD ((List.getD descs_2 0 (([] : List Int), false))).1 (Int.toNat (wi64 ((Nat.cast (List.length ((List.getD descs_2 0 (([] : List Int), false))).1) : Int) - (1 : Int)))) (0 : Int)) (List.getD ins_3 0 ((([] : List Int), false), ([] : List Int))) (0 : Int) (List.getD ((List.getD descs_2 0 (([] : List Int), false))).1 (Int.toNat (wi64 ((Nat.cast (List.length ((List.getD descs_2 0 (([] : List Int), false))).1) : Int) - (1 : Int)))) (0 : Int)) (0 : Int)) fun y1 =>
              some y1)
              (
              cond (decide (op_0 = (20 : Int)))
                (
                Option.bind (g_soft_At_1 N N i_1 (List.getD ((List.getD descs_2 0 (([] : List Int), false))).1 (Int.toNat (wi64 ((Nat.cast (List.length ((List.getD descs_2 0 (([] : List Int), false))).1) : Int) - (1 : Int)))) (0 : Int)) (List.getD ins_3 0 ((([] : List Int), false), ([] : List Int))) (0 : Int) (List.getD ((List.getD descs_2 0 (([] : List Int), false))).1 (Int.toNat (wi64 ((Nat.cast (List.length ((List.getD descs_2 0 (([] : List Int), false))).1) : Int) - (1 : Int)))) (0 : Int)) (0 : Int)) fun y2 =>
                Option.bind (F_tens_Wide N (y2).1) fun y3 =>
                some y3)
                (
                cond (decide (1 < (List.length ins_3)))
                  (
                  cond (decide (@Ne Int (List.getD ((List.getD descs_2 0 (([] : List Int), false))).1 (Int.toNat (wi64 ((Nat.cast (List.length ((List.getD descs_2 0 (([] : List Int), false))).1) : Int) - (1 : Int)))) (0 : Int)) (0 : Int)))
                    (
                    Option.bind (F_op_reads_1 N (wi64 (Int.tdiv i_1 (List.getD ((List.getD descs_2 0 (([] : List Int), false))).1 (Int.toNat (wi64 ((Nat.cast (List.length ((List.getD descs_2 0 (([] : List Int), false))).1) : Int) - (1 : Int)))) (0 : Int)))) (List.getD ins_3 1 ((([] : List Int), false), ([] : List Int)))) fun y4 =>
                    cond (decide (0 < (List.length ((List.getD descs_2 0 (([] : List Int), false))).1)))
                      (
                      cond (decide (@Ne Int (List.getD ((List.getD descs_2 0 (([] : List Int), false))).1 (Int.toNat (wi64 ((Nat.cast (List.length ((List.getD descs_2 0 (([] : List Int), false))).1) : Int) - (1 : Int)))) (0 : Int)) (0 : Int)))
                        (
                        Option.bind (F_op_reads_1 N (wi64 ((wi64 ((Go.Eng.imax (0 : Int) (Go.Eng.imin (y4).1 (wi64 ((List.getD ((List.getD descs_2 0 (([] : List Int), false))).1 0 (0 : Int)) - (1 : Int))))) * (List.getD ((List.getD descs_2 0 (([] : List Int), false))).1 (Int.toNat (wi64 ((Nat.cast (List.length ((List.getD descs_2 0 (([] : List Int), false))).1) : Int) - (1 : Int)))) (0 : Int)))) + (Int.tmod i_1 (List.getD ((List.getD descs_2 0 (([] : List Int), false))).1 (Int.toNat (wi64 ((Nat.cast (List.length ((List.getD descs_2 0 (([] : List Int), false))).1) : Int) - (1 : Int)))) (0 : Int))))) (List.getD ins_3 0 ((([] : List Int), false), ([] : List Int)))) fun y5 =>
                        some y5)
                        (
                        none))
                      (
                      none))
                    (
                    none))
                  (
                  none)))))
          (
          none))
        (
        none))
      (
      none))
    (
    none)

abbrev c_soft_At (N : Nat) : CallSpec := ⟨60, ps_soft_At, rs_soft_At, fun x => F_soft_At N x.1 x.2.1 x.2.2.1 x.2.2.2.1⟩
abbrev l_soft_At_1 (N : Nat) : LoopSpec := ⟨1, h_soft_At_1, e_soft_At_1, fun x => g_soft_At_1 N N x.1 x.2.1 x.2.2.1 x.2.2.2.1 x.2.2.2.2.1 x.2.2.2.2.2.1⟩
abbrev l_soft_At_0 (N : Nat) : LoopSpec := ⟨0, h_soft_At_0, e_soft_At_0, fun x => g_soft_At_0 N N x.1 x.2.1 x.2.2.1 x.2.2.2.1 x.2.2.2.2.1 x.2.2.2.2.2.1⟩

theorem cs_soft_At_ok (S : Nat → Addr) (N : Nat) : CallsOK Go.Proofs.Tryz.prog E S (cs_soft_At N) :=
  .cons (F_op_reads_1_ok S N) (.cons (F_tens_Wide_ok S N) (.cons (F_soft_softmax_ok S N) (.nil)))
noncomputable abbrev b_soft_At_1 : Code := (loopsOf b_soft_At).getD 1 .skip
theorem g_soft_At_1_ok (S : Nat → Addr) (N : Nat) : ∀ n x y, (fun (x : Val (slotsTy h_soft_At_1)) => g_soft_At_1 N n x.1 x.2.1 x.2.2.1 x.2.2.2.1 x.2.2.2.2.1 x.2.2.2.2.2.1) x = some y → LoopCon Go.Proofs.Tryz.prog E S b_soft_At_1 (encSlots h_soft_At_1 x) (encEx e_soft_At_1 y).1 (encEx e_soft_At_1 y).2 :=
  loop_spec E_ok mixed (cs_soft_At_ok S N) (all := loopsOf b_soft_At) (ls := []) (.nil) (i := 1) (by kernel_rfl) (inner_of (by kernel_rfl)) (head := h_soft_At_1) (ex := e_soft_At_1) (fun n (x : Val (slotsTy h_soft_At_1)) => g_soft_At_1 N n x.1 x.2.1 x.2.2.1 x.2.2.2.1 x.2.2.2.2.1 x.2.2.2.2.2.1) (fun _ => rfl) (fun n x => by kernel_rfl)
noncomputable abbrev b_soft_At_0 : Code := (loopsOf b_soft_At).getD 0 .skip
theorem g_soft_At_0_ok (S : Nat → Addr) (N : Nat) : ∀ n x y, (fun (x : Val (slotsTy h_soft_At_0)) => g_soft_At_0 N n x.1 x.2.1 x.2.2.1 x.2.2.2.1 x.2.2.2.2.1 x.2.2.2.2.2.1) x = some y → LoopCon Go.Proofs.Tryz.prog E S b_soft_At_0 (encSlots h_soft_At_0 x) (encEx e_soft_At_0 y).1 (encEx e_soft_At_0 y).2 :=
  loop_spec E_ok mixed (cs_soft_At_ok S N) (all := loopsOf b_soft_At) (ls := []) (.nil) (i := 0) (by kernel_rfl) (inner_of (by kernel_rfl)) (head := h_soft_At_0) (ex := e_soft_At_0) (fun n (x : Val (slotsTy h_soft_At_0)) => g_soft_At_0 N n x.1 x.2.1 x.2.2.1 x.2.2.2.1 x.2.2.2.2.1 x.2.2.2.2.2.1) (fun _ => rfl) (fun n x => by kernel_rfl)
theorem F_soft_At_ok (S : Nat → Addr) (N : Nat) : ∀ x y, (c_soft_At N).g x = some y → FCon Go.Proofs.Tryz.prog E S 60 ps_soft_At rs_soft_At x y := by
  intro x y h
  exact fun_spec E_ok mixed (cs_soft_At_ok S N) (f := 60) (fi := ⟨b_soft_At, 104, Go.Proofs.Tryz.f60.results.toList⟩) (by kernel_rfl) (ls := [l_soft_At_1 N, l_soft_At_0 N]) (.cons (by kernel_rfl) (g_soft_At_1_ok S N N) (.cons (by kernel_rfl) (g_soft_At_0_ok S N N) (.nil))) (by kernel_rfl) (ps := ps_soft_At) (rs := rs_soft_At) (Eq.trans (b := F_soft_At N x.1 x.2.1 x.2.2.1 x.2.2.2.1) (by kernel_rfl) h)

/-! lodge/elem.kind -/

abbrev ps_elem_kind : List Ty := [(.int .i64), .bool]
abbrev rs_elem_kind : List Slot := [.data (.int .i64)]
abbrev cs_elem_kind (N : Nat) : List CallSpec := [c_tens_Narrow N, c_tens_Wide N]
noncomputable abbrev b_elem_kind : Code := (Go.Proofs.Tryz.f89.body).getD .skip

def F_elem_kind (N : Nat) (n_0 : Int) (wide_1 : Bool) : Option (Int × Unit) :=
  cond wide_1
    (
    Option.bind (F_tens_Wide N n_0) fun y0 =>
    some y0)
    (
    Option.bind (F_tens_Narrow N n_0) fun y1 =>
    some y1)

abbrev c_elem_kind (N : Nat) : CallSpec := ⟨89, ps_elem_kind, rs_elem_kind, fun x => F_elem_kind N x.1 x.2.1⟩

theorem cs_elem_kind_ok (S : Nat → Addr) (N : Nat) : CallsOK Go.Proofs.Tryz.prog E S (cs_elem_kind N) :=
  .cons (F_tens_Narrow_ok S N) (.cons (F_tens_Wide_ok S N) (.nil))
theorem F_elem_kind_ok (S : Nat → Addr) (N : Nat) : ∀ x y, (c_elem_kind N).g x = some y → FCon Go.Proofs.Tryz.prog E S 89 ps_elem_kind rs_elem_kind x y := by
  intro x y h
  exact fun_spec E_ok mixed (cs_elem_kind_ok S N) (f := 89) (fi := ⟨b_elem_kind, 10, Go.Proofs.Tryz.f89.results.toList⟩) (by kernel_rfl) (ls := []) (.nil) (by kernel_rfl) (ps := ps_elem_kind) (rs := rs_elem_kind) (Eq.trans (b := F_elem_kind N x.1 x.2.1) (by kernel_rfl) h)

/-! lodge/quant.cut -/

abbrev ps_quant_cut : List Ty := [(.int .i64), (.int .i64), (.int .i64)]
abbrev rs_quant_cut : List Slot := [.data (.int .i64)]
abbrev cs_quant_cut (N : Nat) : List CallSpec := []
noncomputable abbrev b_quant_cut : Code := (Go.Proofs.Tryz.f105.body).getD .skip

def F_quant_cut (N : Nat) (n_0 : Int) (from_1 : Int) (to_2 : Int) : Option (Int × Unit) :=
  some ((Go.Eng.imax from_1 (Go.Eng.imin n_0 to_2)), ())

abbrev c_quant_cut (N : Nat) : CallSpec := ⟨105, ps_quant_cut, rs_quant_cut, fun x => F_quant_cut N x.1 x.2.1 x.2.2.1⟩

theorem cs_quant_cut_ok (S : Nat → Addr) (N : Nat) : CallsOK Go.Proofs.Tryz.prog E S (cs_quant_cut N) :=
  .nil
theorem F_quant_cut_ok (S : Nat → Addr) (N : Nat) : ∀ x y, (c_quant_cut N).g x = some y → FCon Go.Proofs.Tryz.prog E S 105 ps_quant_cut rs_quant_cut x y := by
  intro x y h
  exact fun_spec E_ok mixed (cs_quant_cut_ok S N) (f := 105) (fi := ⟨b_quant_cut, 12, Go.Proofs.Tryz.f105.results.toList⟩) (by kernel_rfl) (ls := []) (.nil) (by kernel_rfl) (ps := ps_quant_cut) (rs := rs_quant_cut) (Eq.trans (b := F_quant_cut N x.1 x.2.1 x.2.2.1) (by kernel_rfl) h)

/-! lodge/quant.Requant -/

abbrev ps_quant_Requant : List Ty := [(.int .i64), (.int .i64), (.int .i64), (.int .i64)]
abbrev rs_quant_Requant : List Slot := [.data (.int .i64)]
abbrev cs_quant_Requant (N : Nat) : List CallSpec := [c_quant_cut N]
noncomputable abbrev b_quant_Requant : Code := (Go.Proofs.Tryz.f90.body).getD .skip

def F_quant_Requant (N : Nat) (x_0 : Int) (mult_1 : Int) (shift_2 : Int) (zero_3 : Int) : Option (Int × Unit) :=
  Option.bind (F_quant_cut N x_0 (-(2147483648 : Int)) (2147483647 : Int)) fun y0 =>
  Option.bind (F_quant_cut N mult_1 (0 : Int) (2147483647 : Int)) fun y1 =>
  Option.bind (F_quant_cut N shift_2 (0 : Int) (62 : Int)) fun y2 =>
  cond (decide ((0 : Int) < (y2).1))
    (
    cond (decide ((0 : Int) ≤ (wi64 ((y2).1 - (1 : Int)))))
      (
      cond (decide ((0 : Int) ≤ (y2).1))
        (
        Option.bind (F_quant_cut N zero_3 (-(128 : Int)) (127 : Int)) fun y3 =>
        Option.bind (F_quant_cut N (wi64 ((Go.Eng.shrI Go.IntKind.i64 (wi64 ((wi64 ((y0).1 * (y1).1)) + (Go.Eng.shlI Go.IntKind.i64 (1 : Int) (wi64 ((y2).1 - (1 : Int)))))) (y2).1) + (y3).1)) (-(128 : Int)) (127 : Int)) fun y4 =>
        some y4)
        (
        none))
      (
      none))
    (
    Option.bind (F_quant_cut N zero_3 (-(128 : Int)) (127 : Int)) fun y5 =>
    Option.bind (F_quant_cut N (wi64 ((wi64 ((y0).1 * (y1).1)) + (y5).1)) (-(128 : Int)) (127 : Int)) fun y6 =>
    some y6)

abbrev c_quant_Requant (N : Nat) : CallSpec := ⟨90, ps_quant_Requant, rs_quant_Requant, fun x => F_quant_Requant N x.1 x.2.1 x.2.2.1 x.2.2.2.1⟩

theorem cs_quant_Requant_ok (S : Nat → Addr) (N : Nat) : CallsOK Go.Proofs.Tryz.prog E S (cs_quant_Requant N) :=
  .cons (F_quant_cut_ok S N) (.nil)
theorem F_quant_Requant_ok (S : Nat → Addr) (N : Nat) : ∀ x y, (c_quant_Requant N).g x = some y → FCon Go.Proofs.Tryz.prog E S 90 ps_quant_Requant rs_quant_Requant x y := by
  intro x y h
  exact fun_spec E_ok mixed (cs_quant_Requant_ok S N) (f := 90) (fi := ⟨b_quant_Requant, 31, Go.Proofs.Tryz.f90.results.toList⟩) (by kernel_rfl) (ls := []) (.nil) (by kernel_rfl) (ps := ps_quant_Requant) (rs := rs_quant_Requant) (Eq.trans (b := F_quant_Requant N x.1 x.2.1 x.2.2.1 x.2.2.2.1) (by kernel_rfl) h)

/-! lodge/elem.Value -/

abbrev ps_elem_Value : List Ty := [(.int .i64), .bool, (.int .i64), (.int .i64), (.sl (.int .i64))]
abbrev rs_elem_Value : List Slot := [.data (.int .i64)]
abbrev cs_elem_Value (N : Nat) : List CallSpec := [c_elem_counts N, c_elem_kind N, c_quant_Requant N]
noncomputable abbrev b_elem_Value : Code := (Go.Proofs.Tryz.f61.body).getD .skip

def F_elem_Value (N : Nat) (op_0 : Int) (wide_1 : Bool) (x_2 : Int) (y_3 : Int) (args_4 : List Int) : Option (Int × Unit) :=
  Option.bind (F_elem_counts N op_0) fun y0 =>
  cond (decide ((Nat.cast (List.length args_4) : Int) < ((y0).2).1))
    (
    some ((0 : Int), ()))
    (
    cond (decide (op_0 = (4 : Int)))
      (
      Option.bind (F_elem_kind N (wi64 (x_2 + y_3)) wide_1) fun y1 =>
      some y1)
      (
      cond (decide (op_0 = (5 : Int)))
        (
        Option.bind (F_elem_kind N (wi64 (x_2 - y_3)) wide_1) fun y2 =>
        some y2)
        (
        cond (decide (op_0 = (6 : Int)))
          (
          Option.bind (F_elem_kind N (wi64 (x_2 * y_3)) wide_1) fun y3 =>
          some y3)
          (
          cond (decide (op_0 = (7 : Int)))
            (
            some ((Go.Eng.imax x_2 y_3), ()))
            (
            cond (decide (op_0 = (8 : Int)))
              (
              some ((Go.Eng.imax x_2 (0 : Int)), ()))
              (
              cond (decide (op_0 = (9 : Int)))
                (
                cond (decide (0 < (List.length args_4)))
                  (
                  cond (decide (1 < (List.length args_4)))
                    (
                    some ((Go.Eng.imax (List.getD args_4 0 (0 : Int)) (Go.Eng.imin x_2 (List.getD args_4 1 (0 : Int)))), ()))
                    (
                    none))
                  (
                  none))
                (
                cond (decide (op_0 = (10 : Int)))
                  (
                  cond (decide (0 < (List.length args_4)))
                    (
                    cond (decide (1 < (List.length args_4)))
                      (
                      cond (decide (2 < (List.length args_4)))
                        (
                        Option.bind (F_quant_Requant N x_2 (List.getD args_4 0 (0 : Int)) (List.getD args_4 1 (0 : Int)) (List.getD args_4 2 (0 : Int))) fun y4 =>
                        some y4)
                        (
                        none))
                      (
                      none))
                    (
                    none))
                  (
                  cond (decide (op_0 = (11 : Int)))
                    (
                    cond (decide (0 < (List.length args_4)))
                      (
                      some ((wi64 (x_2 - (List.getD args_4 0 (0 : Int)))), ()))
                      (
                      none))
                    (
                    some ((0 : Int), ()))))))))))

abbrev c_elem_Value (N : Nat) : CallSpec := ⟨61, ps_elem_Value, rs_elem_Value, fun x => F_elem_Value N x.1 x.2.1 x.2.2.1 x.2.2.2.1 x.2.2.2.2.1⟩

theorem cs_elem_Value_ok (S : Nat → Addr) (N : Nat) : CallsOK Go.Proofs.Tryz.prog E S (cs_elem_Value N) :=
  .cons (F_elem_counts_ok S N) (.cons (F_elem_kind_ok S N) (.cons (F_quant_Requant_ok S N) (.nil)))
theorem F_elem_Value_ok (S : Nat → Addr) (N : Nat) : ∀ x y, (c_elem_Value N).g x = some y → FCon Go.Proofs.Tryz.prog E S 61 ps_elem_Value rs_elem_Value x y := by
  intro x y h
  exact fun_spec E_ok mixed (cs_elem_Value_ok S N) (f := 61) (fi := ⟨b_elem_Value, 86, Go.Proofs.Tryz.f61.results.toList⟩) (by kernel_rfl) (ls := []) (.nil) (by kernel_rfl) (ps := ps_elem_Value) (rs := rs_elem_Value) (Eq.trans (b := F_elem_Value N x.1 x.2.1 x.2.2.1 x.2.2.2.1 x.2.2.2.2.1) (by kernel_rfl) h)

/-! lodge/op.At -/

abbrev ps_op_At : List Ty := [(.int .i64), (.sl (.int .i64)), (.int .i64), (.st (.pair (.sl (.int .i64)) .bool)), (.sl (.st (.pair (.sl (.int .i64)) .bool))), (.sl (.clo 55 (.ref (.st (.pair (.st (.pair (.sl (.int .i64)) .bool)) (.sl (.int .i64)))))))]
abbrev rs_op_At : List Slot := [.data (.int .i64)]
abbrev cs_op_At (N : Nat) : List CallSpec := [c_op_reads_1 N, c_mat_At N, c_conv_At N, c_pool_At N, c_soft_At N, c_elem_Value N]
noncomputable abbrev b_op_At : Code := (Go.Proofs.Tryz.f29.body).getD .skip

def F_op_At (N : Nat) (op_0 : Int) (args_1 : List Int) (i_2 : Int) (d_3 : (List Int × Bool)) (descs_4 : List ((List Int × Bool))) (ins_5 : List ((List Int × Bool) × List Int)) : Option (Int × Unit) :=
  cond (decide (0 < (List.length descs_4)))
    (
    cond (decide (op_0 = (12 : Int)))
      (
      cond (decide (1 < (List.length ((List.getD descs_4 0 (([] : List Int), false))).1)))
        (
        cond (decide (1 < (List.length descs_4)))
          (
          cond (decide (1 < (List.length ((List.getD descs_4 1 (([] : List Int), false))).1)))
            (
            cond (decide (0 < (List.length ins_5)))
              (
              cond (decide (1 < (List.length ins_5)))
                (
                cond (decide (0 < (List.length args_1)))
                  (
                  cond (decide (1 < (List.length args_1)))
                    (
                    Option.bind (F_mat_At N (List.getD ((List.getD descs_4 0 (([] : List Int), false))).1 1 (0 : Int)) (List.getD ((List.getD descs_4 1 (([] : List Int), false))).1 1 (0 : Int)) (List.getD ins_5 0 ((([] : List Int), false), ([] : List Int))) (List.getD ins_5 1 ((([] : List Int), false), ([] : List Int))) (List.getD args_1 0 (0 : Int)) (List.getD args_1 1 (0 : Int)) i_2) fun y0 =>
                    some y0)
                    (
                    none))
                  (
                  none))
                (
                none))
              (
              none))
            (
            none))
          (
          none))
        (
        none))
      (
      cond (decide (op_0 = (13 : Int)))
        (
        cond (decide (1 < (List.length descs_4)))
          (
          cond (decide (0 < (List.length ins_5)))
            (
            cond (decide (1 < (List.length ins_5)))
              (
              cond (decide (1 < (List.length (d_3).1)))
                (
                Option.bind (F_conv_At N args_1 ((List.getD descs_4 0 (([] : List Int), false))).1 ((List.getD descs_4 1 (([] : List Int), false))).1 (List.getD ins_5 0 ((([] : List Int), false), ([] : List Int))) (List.getD ins_5 1 ((([] : List Int), false), ([] : List Int))) i_2 (List.getD (d_3).1 1 (0 : Int))) fun y1 =>
                some y1)
                (
                none))
              (
              none))
            (
            none))
          (
          none))
        (
        cond (decide (op_0 = (14 : Int)))
          (
          cond (decide (0 < (List.length ins_5)))
            (
            cond (decide (1 < (List.length (d_3).1)))
              (
              Option.bind (F_pool_At N (decide (op_0 = (15 : Int))) args_1 ((List.getD descs_4 0 (([] : List Int), false))).1 (List.getD ins_5 0 ((([] : List Int), false), ([] : List Int))) i_2 (List.getD (d_3).1 1 (0 : Int))) fun y2 =>
              some y2)
              (
              none))
            (
            none))
          (
          cond (decide (op_0 = (15 : Int)))
            (
            cond (decide (0 < (List.length ins_5)))
              (
              cond (decide (1 < (List.length (d_3).1)))
                (
                Option.bind (F_pool_At N (decide (op_0 = (15 : Int))) args_1 ((List.getD descs_4 0 (([] : List Int), false))).1 (List.getD ins_5 0 ((([] : List Int), false), ([] : List Int))) i_2 (List.getD (d_3).1 1 (0 : Int))) fun y3 =>
                some y3)
                (
                none))
              (
              none))
            (
            cond (decide (op_0 = (16 : Int)))
              (
              Option.bind (F_soft_At N op_0 i_2 descs_4 ins_5) fun y4 =>
              some y4)
              (
              cond (decide (op_0 = (19 : Int)))
                (
                Option.bind (F_soft_At N op_0 i_2 descs_4 ins_5) fun y5 =>
                some y5)
                (
                cond (decide (op_0 = (20 : Int)))
                  (
                  Option.bind (F_soft_At N op_0 i_2 descs_4 ins_5) fun y6 =>
                  some y6)
                  (
                  cond (decide (op_0 = (17 : Int)))
                    (
                    Option.bind (F_soft_At N op_0 i_2 descs_4 ins_5) fun y7 =>
                    some y7)
                    (
                    cond (decide (op_0 = (18 : Int)))
                      (
                      cond (decide (0 < (List.length ins_5)))
                        (
                        Option.bind (F_op_reads_1 N i_2 (List.getD ins_5 0 ((([] : List Int), false), ([] : List Int)))) fun y8 =>
                        some y8)
                        (
                        none))
                      (
                      cond (decide (op_0 = (21 : Int)))
                        (
                        cond (decide (0 < (List.length ((List.getD descs_4 0 (([] : List Int), false))).1)))
                          (
                          cond (decide (1 < (List.length ((List.getD descs_4 0 (([] : List Int), false))).1)))
                            (
                            cond (decide (0 < (List.length ins_5)))
                              (
                              cond (decide (@Ne Int (List.getD ((List.getD descs_4 0 (([] : List Int), false))).1 0 (0 : Int)) (0 : Int)))
                                (
                                cond (decide (@Ne Int (List.getD ((List.getD descs_4 0 (([] : List Int), false))).1 0 (0 : Int)) (0 : Int)))
                                  (
                                  Option.bind (F_op_reads_1 N (wi64 ((wi64 ((Int.tmod i_2 (List.getD ((List.getD descs_4 0 (([] : List Int), false))).1 0 (0 : Int))) * (List.getD ((List.getD descs_4 0 (([] : List Int), false))).1 1 (0 : Int)))) + (wi64 (Int.tdiv i_2 (List.getD ((List.getD descs_4 0 (([] : List Int), false))).1 0 (0 : Int)))))) (List.getD ins_5 0 ((([] : List Int), false), ([] : List Int)))) fun y9 =>
                                  some y9)
                                  (
                                  none))
                                (
                                none))
                              (
                              none))
                            (
                            none))
                          (
                          none))
                        (
                        cond (decide ((1 : Int) < (Nat.cast (List.length ins_5) : Int)))
                          (
                          cond (decide (1 < (List.length ins_5)))
                            (
                            Option.bind (F_op_reads_1 N i_2 (List.getD ins_5 1 ((([] : List Int), false), ([] : List Int)))) fun y10 =>
                            cond (decide (0 < (List.length descs_4)))
                              (
                              cond (decide (0 < (List.length ins_5)))
                                (
                                Option.bind (F_op_reads_1 N i_2 (List.getD ins_5 0 ((([] : List Int), false), ([] : List Int)))) fun y11 =>
                                Option.bind (F_elem_Value N op_0 ((List.getD descs_4 0 (([] : List Int), false))).2 (y11).1 (y10).1 args_1) fun y12 =>
                                some y12)
                                (
                                none))
                              (
                              none))
                            (
                            none))
                          (
                          cond (decide (0 < (List.length descs_4)))
                            (
                            cond (decide (0 < (List.length ins_5)))
                              (
                              Option.bind (F_op_reads_1 N i_2 (List.getD ins_5 0 ((([] : List Int), false), ([] : List Int)))) fun y13 =>
                              Option.bind (F_elem_Value N op_0 ((List.getD descs_4 0 (([] : List Int), false))).2 (y13).1 (0 : Int) args_1) fun y14 =>
                              some y14)
                              (
                              none))
                            (
                            none)))))))))))))
    (
    none)

abbrev c_op_At (N : Nat) : CallSpec := ⟨29, ps_op_At, rs_op_At, fun x => F_op_At N x.1 x.2.1 x.2.2.1 x.2.2.2.1 x.2.2.2.2.1 x.2.2.2.2.2.1⟩

theorem cs_op_At_ok (S : Nat → Addr) (N : Nat) : CallsOK Go.Proofs.Tryz.prog E S (cs_op_At N) :=
  .cons (F_op_reads_1_ok S N) (.cons (F_mat_At_ok S N) (.cons (F_conv_At_ok S N) (.cons (F_pool_At_ok S N) (.cons (F_soft_At_ok S N) (.cons (F_elem_Value_ok S N) (.nil))))))
theorem F_op_At_ok (S : Nat → Addr) (N : Nat) : ∀ x y, (c_op_At N).g x = some y → FCon Go.Proofs.Tryz.prog E S 29 ps_op_At rs_op_At x y := by
  intro x y h
  exact fun_spec E_ok mixed (cs_op_At_ok S N) (f := 29) (fi := ⟨b_op_At, 142, Go.Proofs.Tryz.f29.results.toList⟩) (by kernel_rfl) (ls := []) (.nil) (by kernel_rfl) (ps := ps_op_At) (rs := rs_op_At) (Eq.trans (b := F_op_At N x.1 x.2.1 x.2.2.1 x.2.2.2.1 x.2.2.2.2.1 x.2.2.2.2.2.1) (by kernel_rfl) h)

/-! lodge/op.Apply -/

abbrev ps_op_Apply : List Ty := [(.int .i64), (.sl (.int .i64)), (.sl (.st (.pair (.st (.pair (.sl (.int .i64)) .bool)) (.sl (.int .i64)))))]
abbrev rs_op_Apply : List Slot := [.ag [.d (.sl (.int .i64)), .d .bool, .sl (.int .i64)], .data .err]
abbrev cs_op_Apply (N : Nat) : List CallSpec := [c_shape_Elems N, c_op_result N, c_op_reads N, c_op_At N]
noncomputable abbrev b_op_Apply : Code := (Go.Proofs.Tryz.f6.body).getD .skip

abbrev h_op_Apply_0 : List Slot := [.data (.int .i64), .data (.sl (.int .i64)), .dead, .dead, .dead, .dead, .box [.sl (.int .i64), .d .bool, .sl (.int .i64)], .dead, .box [.d (.st (.pair (.sl (.int .i64)) .bool))], .data (.sl (.st (.pair (.sl (.int .i64)) .bool))), .dead, .box [.d (.sl (.int .i64)), .d .bool, .sl (.int .i64)], .sl (.clo 55 (.ref (.st (.pair (.st (.pair (.sl (.int .i64)) .bool)) (.sl (.int .i64)))))), .dead, .dead, .dead, .dead, .dead, .dead, .dead, .dead, .dead, .dead, .dead, .dead, .dead, .dead, .dead, .dead, .dead, .dead, .dead, .data (.int .i64), .data (.int .i64), .dead, .dead, .dead, .dead, .dead, .dead, .dead, .dead, .dead, .dead, .dead, .dead, .dead, .dead, .dead, .dead]
abbrev e_op_Apply_0 : List (AX × List Slot) := [(AX.exit 0, [.dead, .dead, .dead, .dead, .dead, .dead, .box [.sl (.int .i64), .d .bool, .sl (.int .i64)], .dead, .dead, .dead, .dead, .box [.d (.sl (.int .i64)), .d .bool, .sl (.int .i64)], .dead, .dead, .dead, .dead, .dead, .dead, .dead, .dead, .dead, .dead, .dead, .dead, .dead, .dead, .dead, .dead, .dead, .dead, .dead, .dead, .dead, .dead, .dead, .dead, .dead, .dead, .dead, .dead, .dead, .dead, .dead, .dead, .dead, .dead, .dead, .dead, .dead, .dead])]
def g_op_Apply_0 (N : Nat) : Nat → Int → List Int → (List Int × (Bool × (List Int × Unit))) → ((List Int × Bool) × Unit) → List ((List Int × Bool)) → (List Int × (Bool × (List Int × Unit))) → List ((List Int × Bool) × List Int) → Int → Int → Option ((List Int × (Bool × (List Int × Unit))) × ((List Int × (Bool × (List Int × Unit))) × Unit))
  | 0, _, _, _, _, _, _, _, _, _ => none
  | n + 1, op_0, args_1, t_6, d_8, descs_9, out_11, get_12, t_32, t_33 =>
    cond (decide (t_33 < t_32))
      (
      cond (decide (((0 : Nat) + (List.length get_12)) ≤ (List.length get_12)))
        (
        Option.bind (F_op_At N op_0 args_1 t_33 (d_8).1 descs_9 (List.take (List.length get_12) get_12)) fun y4 =>
        cond (decide (((0 : Nat) + (List.length (((out_11).2).2).1)) = (List.length (((out_11).2).2).1)))
          (
          cond (decide ((((List.length (((out_11).2).2).1) + 1) * (8 + (1 : Nat))) ≤ Go.Eng.most))
            (
            cond (decide ((List.length (t_6).1) = (List.length (t_6).1)))
              (
              cond (decide ((List.length (((t_6).2).2).1) = (List.length (((t_6).2).2).1)))
                (
                cond (decide (((List.length (((out_11).2).2).1) + 1) = (List.length ((List.take (List.length (((out_11).2).2).1) (((out_11).2).2).1) ++ ((y4).1 :: ([] : List Int))))))
                  (
                  cond (decide ((List.length get_12) = (List.length get_12)))
                    (
                    (g_op_Apply_0 N n op_0 args_1 t_6 d_8 descs_9 ((out_11).1, (((out_11).2).1, (((List.take (List.length (((out_11).2).2).1) (((out_11).2).2).1) ++ ((y4).1 :: ([] : List Int))), ()))) get_12 t_32 (wi64 (t_33 + (1 : Int)))))
                    (
                    none))
                  (
                  none))
                (
                none))
              (
              none))
            (
            none))
          (
          none))
        (
        none))
      (
      cond (decide ((List.length (t_6).1) = (List.length (t_6).1)))
        (
        cond (decide ((List.length (((t_6).2).2).1) = (List.length (((t_6).2).2).1)))
          (
          cond (decide ((List.length (((out_11).2).2).1) = (List.length (((out_11).2).2).1)))
            (
            some (t_6, (out_11, ())))
            (
            none))
          (
          none))
        (
        none))

def F_op_Apply (N : Nat) (op_0 : Int) (args_1 : List Int) (ins_2 : List (((List Int × Bool) × List Int))) : Option ((List Int × (Bool × (List Int × Unit))) × (Er × Unit)) :=
  Option.bind (F_op_result N op_0 args_1 ins_2) fun y0 =>
  cond (Bool.not (Go.Eng.Er.isNil (((y0).2).2).1))
    (
    some ((([] : List Int), (false, (([] : List Int), ()))), ((y0).2).2))
    (
    Option.bind (F_op_reads N ins_2) fun y1 =>
    Option.bind (F_shape_Elems N ((y0).1).1) fun y2 =>
    cond (decide ((List.length (y1).1) = (List.length (y1).1)))
      (
      Option.bind (g_op_Apply_0 N N op_0 args_1 (([] : List Int), (false, (([] : List Int), ()))) ((y0).1, ()) ((y0).2).1 (((y0).1).1, (((y0).1).2, (([] : List Int), ()))) (y1).1 (y2).1 (0 : Int)) fun y3 =>
      cond (decide ((List.length (((((y3).2).1).2).2).1) = (List.length (((((y3).2).1).2).2).1)))
        (
        some (((y3).2).1, (Go.Eng.Er.nil, ())))
        (
        none))
      (
      none))

abbrev c_op_Apply (N : Nat) : CallSpec := ⟨6, ps_op_Apply, rs_op_Apply, fun x => F_op_Apply N x.1 x.2.1 x.2.2.1⟩
abbrev l_op_Apply_0 (N : Nat) : LoopSpec := ⟨0, h_op_Apply_0, e_op_Apply_0, fun x => g_op_Apply_0 N N x.1 x.2.1 x.2.2.1 x.2.2.2.1 x.2.2.2.2.1 x.2.2.2.2.2.1 x.2.2.2.2.2.2.1 x.2.2.2.2.2.2.2.1 x.2.2.2.2.2.2.2.2.1⟩

theorem cs_op_Apply_ok (S : Nat → Addr) (N : Nat) : CallsOK Go.Proofs.Tryz.prog E S (cs_op_Apply N) :=
  .cons (F_shape_Elems_ok S N) (.cons (F_op_result_ok S N) (.cons (F_op_reads_ok S N) (.cons (F_op_At_ok S N) (.nil))))
noncomputable abbrev b_op_Apply_0 : Code := (loopsOf b_op_Apply).getD 0 .skip
theorem g_op_Apply_0_ok (S : Nat → Addr) (N : Nat) : ∀ n x y, (fun (x : Val (slotsTy h_op_Apply_0)) => g_op_Apply_0 N n x.1 x.2.1 x.2.2.1 x.2.2.2.1 x.2.2.2.2.1 x.2.2.2.2.2.1 x.2.2.2.2.2.2.1 x.2.2.2.2.2.2.2.1 x.2.2.2.2.2.2.2.2.1) x = some y → LoopCon Go.Proofs.Tryz.prog E S b_op_Apply_0 (encSlots h_op_Apply_0 x) (encEx e_op_Apply_0 y).1 (encEx e_op_Apply_0 y).2 :=
  loop_spec E_ok mixed (cs_op_Apply_ok S N) (all := loopsOf b_op_Apply) (ls := []) (.nil) (i := 0) (by kernel_rfl) (inner_of (by kernel_rfl)) (head := h_op_Apply_0) (ex := e_op_Apply_0) (fun n (x : Val (slotsTy h_op_Apply_0)) => g_op_Apply_0 N n x.1 x.2.1 x.2.2.1 x.2.2.2.1 x.2.2.2.2.1 x.2.2.2.2.2.1 x.2.2.2.2.2.2.1 x.2.2.2.2.2.2.2.1 x.2.2.2.2.2.2.2.2.1) (fun _ => rfl) (fun n x => by kernel_rfl)
theorem F_op_Apply_ok (S : Nat → Addr) (N : Nat) : ∀ x y, (c_op_Apply N).g x = some y → FCon Go.Proofs.Tryz.prog E S 6 ps_op_Apply rs_op_Apply x y := by
  intro x y h
  exact fun_spec E_ok mixed (cs_op_Apply_ok S N) (f := 6) (fi := ⟨b_op_Apply, 50, Go.Proofs.Tryz.f6.results.toList⟩) (by kernel_rfl) (ls := [l_op_Apply_0 N]) (.cons (by kernel_rfl) (g_op_Apply_0_ok S N N) (.nil)) (by kernel_rfl) (ps := ps_op_Apply) (rs := rs_op_Apply) (Eq.trans (b := F_op_Apply N x.1 x.2.1 x.2.2.1) (by kernel_rfl) h)

/-! lodge/lodgeref.Bare -/

abbrev ps_lodgeref_Bare : List Ty := [(.int .i64)]
abbrev rs_lodgeref_Bare : List Slot := [.data (.st (.pair (.int .i64) (.pair .bool (.int .i64))))]
abbrev cs_lodgeref_Bare (N : Nat) : List CallSpec := []
noncomputable abbrev b_lodgeref_Bare : Code := (Go.Proofs.Tryz.f32.body).getD .skip

def F_lodgeref_Bare (N : Nat) (code_0 : Int) : Option ((Int × (Bool × Int)) × Unit) :=
  some ((code_0, (false, (0 : Int))), ())

abbrev c_lodgeref_Bare (N : Nat) : CallSpec := ⟨32, ps_lodgeref_Bare, rs_lodgeref_Bare, fun x => F_lodgeref_Bare N x.1⟩

theorem cs_lodgeref_Bare_ok (S : Nat → Addr) (N : Nat) : CallsOK Go.Proofs.Tryz.prog E S (cs_lodgeref_Bare N) :=
  .nil
theorem F_lodgeref_Bare_ok (S : Nat → Addr) (N : Nat) : ∀ x y, (c_lodgeref_Bare N).g x = some y → FCon Go.Proofs.Tryz.prog E S 32 ps_lodgeref_Bare rs_lodgeref_Bare x y := by
  intro x y h
  exact fun_spec E_ok mixed (cs_lodgeref_Bare_ok S N) (f := 32) (fi := ⟨b_lodgeref_Bare, 5, Go.Proofs.Tryz.f32.results.toList⟩) (by kernel_rfl) (ls := []) (.nil) (by kernel_rfl) (ps := ps_lodgeref_Bare) (rs := rs_lodgeref_Bare) (Eq.trans (b := F_lodgeref_Bare N x.1) (by kernel_rfl) h)

/-! lodge/lodgeref.None -/

abbrev ps_lodgeref_None : List Ty := []
abbrev rs_lodgeref_None : List Slot := [.data (.st (.pair (.int .i64) (.pair .bool (.int .i64))))]
abbrev cs_lodgeref_None (N : Nat) : List CallSpec := []
noncomputable abbrev b_lodgeref_None : Code := (Go.Proofs.Tryz.f35.body).getD .skip

def F_lodgeref_None (N : Nat)  : Option ((Int × (Bool × Int)) × Unit) :=
  some (((0 : Int), (false, (0 : Int))), ())

abbrev c_lodgeref_None (N : Nat) : CallSpec := ⟨35, ps_lodgeref_None, rs_lodgeref_None, fun x => F_lodgeref_None N ⟩

theorem cs_lodgeref_None_ok (S : Nat → Addr) (N : Nat) : CallsOK Go.Proofs.Tryz.prog E S (cs_lodgeref_None N) :=
  .nil
theorem F_lodgeref_None_ok (S : Nat → Addr) (N : Nat) : ∀ x y, (c_lodgeref_None N).g x = some y → FCon Go.Proofs.Tryz.prog E S 35 ps_lodgeref_None rs_lodgeref_None x y := by
  intro x y h
  exact fun_spec E_ok mixed (cs_lodgeref_None_ok S N) (f := 35) (fi := ⟨b_lodgeref_None, 2, Go.Proofs.Tryz.f35.results.toList⟩) (by kernel_rfl) (ls := []) (.nil) (by kernel_rfl) (ps := ps_lodgeref_None) (rs := rs_lodgeref_None) (Eq.trans (b := F_lodgeref_None N ) (by kernel_rfl) h)

/-! lodge/lodgeref.Placed -/

abbrev ps_lodgeref_Placed : List Ty := [(.int .i64), (.int .i64)]
abbrev rs_lodgeref_Placed : List Slot := [.data (.st (.pair (.int .i64) (.pair .bool (.int .i64))))]
abbrev cs_lodgeref_Placed (N : Nat) : List CallSpec := [c_lodgeref_None N]
noncomputable abbrev b_lodgeref_Placed : Code := (Go.Proofs.Tryz.f63.body).getD .skip

def F_lodgeref_Placed (N : Nat) (code_0 : Int) (pos_1 : Int) : Option ((Int × (Bool × Int)) × Unit) :=
  cond (decide (code_0 = (0 : Int)))
    (
    Option.bind (F_lodgeref_None N) fun y0 =>
    some y0)
    (
    some ((code_0, (true, pos_1)), ()))

abbrev c_lodgeref_Placed (N : Nat) : CallSpec := ⟨63, ps_lodgeref_Placed, rs_lodgeref_Placed, fun x => F_lodgeref_Placed N x.1 x.2.1⟩

theorem cs_lodgeref_Placed_ok (S : Nat → Addr) (N : Nat) : CallsOK Go.Proofs.Tryz.prog E S (cs_lodgeref_Placed N) :=
  .cons (F_lodgeref_None_ok S N) (.nil)
theorem F_lodgeref_Placed_ok (S : Nat → Addr) (N : Nat) : ∀ x y, (c_lodgeref_Placed N).g x = some y → FCon Go.Proofs.Tryz.prog E S 63 ps_lodgeref_Placed rs_lodgeref_Placed x y := by
  intro x y h
  exact fun_spec E_ok mixed (cs_lodgeref_Placed_ok S N) (f := 63) (fi := ⟨b_lodgeref_Placed, 11, Go.Proofs.Tryz.f63.results.toList⟩) (by kernel_rfl) (ls := []) (.nil) (by kernel_rfl) (ps := ps_lodgeref_Placed) (rs := rs_lodgeref_Placed) (Eq.trans (b := F_lodgeref_Placed N x.1 x.2.1) (by kernel_rfl) h)

/-! lodge/lodgeref3.Valid -/

abbrev ps_lodgeref3_Valid : List Ty := [(.st (.pair (.st (.pair (.sl (.int .i64)) .bool)) (.sl (.int .i64))))]
abbrev rs_lodgeref3_Valid : List Slot := [.data (.st (.pair (.int .i64) (.pair .bool (.int .i64))))]
abbrev cs_lodgeref3_Valid (N : Nat) : List CallSpec := [c_lodgeref3_ValidDesc N, c_lodgeref3_in N, c_lodgeref3_Elems N, c_lodgeref_Bare N, c_lodgeref_None N, c_lodgeref_Placed N]
noncomputable abbrev b_lodgeref3_Valid : Code := (Go.Proofs.Tryz.f30.body).getD .skip

abbrev h_lodgeref3_Valid_0 : List Slot := [.dead, .box [.d (.st (.pair (.st (.pair (.sl (.int .i64)) .bool)) (.sl (.int .i64))))], .box [.d (.st (.pair (.int .i64) (.pair .bool (.int .i64))))], .dead, .data (.int .i64), .dead, .dead, .dead, .dead, .dead, .dead, .dead, .dead, .dead, .dead, .dead, .dead, .dead, .dead, .dead, .dead, .dead, .dead, .dead, .dead, .dead, .dead, .dead, .dead, .dead, .dead, .dead, .dead, .dead, .dead, .dead, .dead, .dead, .dead, .dead, .dead]
abbrev e_lodgeref3_Valid_0 : List (AX × List Slot) := [(AX.exit 0, [.dead, .dead, .box [.d (.st (.pair (.int .i64) (.pair .bool (.int .i64))))], .dead, .dead, .dead, .dead, .dead, .dead, .dead, .dead, .dead, .dead, .dead, .dead, .dead, .dead, .dead, .dead, .dead, .dead, .dead, .dead, .dead, .dead, .dead, .dead, .dead, .dead, .dead, .dead, .dead, .dead, .dead, .dead, .dead, .dead, .dead, .dead, .dead, .dead]), (AX.ret, [.dead, .dead, .box [.d (.st (.pair (.int .i64) (.pair .bool (.int .i64))))], .dead, .dead, .dead, .dead, .dead, .dead, .dead, .dead, .dead, .dead, .dead, .dead, .dead, .dead, .dead, .dead, .dead, .dead, .dead, .dead, .dead, .dead, .dead, .dead, .dead, .dead, .dead, .dead, .dead, .dead, .dead, .dead, .dead, .dead, .dead, .dead, .dead, .dead])]
def g_lodgeref3_Valid_0 (N : Nat) : Nat → (((List Int × Bool) × List Int) × Unit) → ((Int × (Bool × Int)) × Unit) → Int → Option (Sum (((Int × (Bool × Int)) × Unit) × Unit) (((Int × (Bool × Int)) × Unit) × Unit))
  | 0, _, _, _ => none
  | n + 1, t_1, t_2, i_4 =>
    cond (decide (i_4 < (Nat.cast (List.length ((t_1).1).2) : Int)))
      (
      cond (decide ((0 : Int) ≤ i_4))
        (
        cond (decide ((Int.toNat i_4) < (List.length ((t_1).1).2)))
          (
          Option.bind (F_lodgeref3_in N (List.getD ((t_1).1).2 (Int.toNat i_4) (0 : Int)) (((t_1).1).1).2) fun y4 =>
          cond (Bool.not (y4).1)
            (
            Option.bind (F_lodgeref_Placed N (102 : Int) i_4) fun y5 =>
            some (Sum.inr (y5, ())))
            (
            (g_lodgeref3_Valid_0 N n t_1 t_2 (wi64 (i_4 + (1 : Int))))))
          (
          none))
        (
        none))
      (
      some (Sum.inl (t_2, ())))

def F_lodgeref3_Valid (N : Nat) (t_0 : ((List Int × Bool) × List Int)) : Option ((Int × (Bool × Int)) × Unit) :=
  Option.bind (F_lodgeref3_ValidDesc N (t_0).1) fun y0 =>
  cond (decide (@Ne Int (y0).1 (0 : Int)))
    (
    Option.bind (F_lodgeref_Bare N (y0).1) fun y1 =>
    some y1)
    (
    Option.bind (F_lodgeref3_Elems N ((t_0).1).1) fun y2 =>
    cond (decide (@Ne Int (Nat.cast (List.length (t_0).2) : Int) (y2).1))
      (
      Option.bind (F_lodgeref_Bare N (101 : Int)) fun y3 =>
      some y3)
      (
      Option.bind (g_lodgeref3_Valid_0 N N (t_0, ()) (((0 : Int), (false, (0 : Int))), ()) (0 : Int)) fun y4 =>
      Sum.elim (fun y5 =>
        Option.bind (F_lodgeref_None N) fun y6 =>
        some y6)
        (fun y7 =>
        some (y7).1) y4))

abbrev c_lodgeref3_Valid (N : Nat) : CallSpec := ⟨30, ps_lodgeref3_Valid, rs_lodgeref3_Valid, fun x => F_lodgeref3_Valid N x.1⟩
abbrev l_lodgeref3_Valid_0 (N : Nat) : LoopSpec := ⟨0, h_lodgeref3_Valid_0, e_lodgeref3_Valid_0, fun x => g_lodgeref3_Valid_0 N N x.1 x.2.1 x.2.2.1⟩

theorem cs_lodgeref3_Valid_ok (S : Nat → Addr) (N : Nat) : CallsOK Go.Proofs.Tryz.prog E S (cs_lodgeref3_Valid N) :=
  .cons (F_lodgeref3_ValidDesc_ok S N) (.cons (F_lodgeref3_in_ok S N) (.cons (F_lodgeref3_Elems_ok S N) (.cons (F_lodgeref_Bare_ok S N) (.cons (F_lodgeref_None_ok S N) (.cons (F_lodgeref_Placed_ok S N) (.nil))))))
noncomputable abbrev b_lodgeref3_Valid_0 : Code := (loopsOf b_lodgeref3_Valid).getD 0 .skip
theorem g_lodgeref3_Valid_0_ok (S : Nat → Addr) (N : Nat) : ∀ n x y, (fun (x : Val (slotsTy h_lodgeref3_Valid_0)) => g_lodgeref3_Valid_0 N n x.1 x.2.1 x.2.2.1) x = some y → LoopCon Go.Proofs.Tryz.prog E S b_lodgeref3_Valid_0 (encSlots h_lodgeref3_Valid_0 x) (encEx e_lodgeref3_Valid_0 y).1 (encEx e_lodgeref3_Valid_0 y).2 :=
  loop_spec E_ok mixed (cs_lodgeref3_Valid_ok S N) (all := loopsOf b_lodgeref3_Valid) (ls := []) (.nil) (i := 0) (by kernel_rfl) (inner_of (by kernel_rfl)) (head := h_lodgeref3_Valid_0) (ex := e_lodgeref3_Valid_0) (fun n (x : Val (slotsTy h_lodgeref3_Valid_0)) => g_lodgeref3_Valid_0 N n x.1 x.2.1 x.2.2.1) (fun _ => rfl) (fun n x => by kernel_rfl)
theorem F_lodgeref3_Valid_ok (S : Nat → Addr) (N : Nat) : ∀ x y, (c_lodgeref3_Valid N).g x = some y → FCon Go.Proofs.Tryz.prog E S 30 ps_lodgeref3_Valid rs_lodgeref3_Valid x y := by
  intro x y h
  exact fun_spec E_ok mixed (cs_lodgeref3_Valid_ok S N) (f := 30) (fi := ⟨b_lodgeref3_Valid, 41, Go.Proofs.Tryz.f30.results.toList⟩) (by kernel_rfl) (ls := [l_lodgeref3_Valid_0 N]) (.cons (by kernel_rfl) (g_lodgeref3_Valid_0_ok S N N) (.nil)) (by kernel_rfl) (ps := ps_lodgeref3_Valid) (rs := rs_lodgeref3_Valid) (Eq.trans (b := F_lodgeref3_Valid N x.1) (by kernel_rfl) h)

/-! lodge/lodgeref3.descsOf -/

abbrev ps_lodgeref3_descsOf : List Ty := [(.sl (.st (.pair (.st (.pair (.sl (.int .i64)) .bool)) (.sl (.int .i64)))))]
abbrev rs_lodgeref3_descsOf : List Slot := [.sl (.st (.pair (.sl (.int .i64)) .bool))]
abbrev cs_lodgeref3_descsOf (N : Nat) : List CallSpec := []
noncomputable abbrev b_lodgeref3_descsOf : Code := (Go.Proofs.Tryz.f31.body).getD .skip

abbrev h_lodgeref3_descsOf_0 : List Slot := [.data (.sl (.st (.pair (.st (.pair (.sl (.int .i64)) .bool)) (.sl (.int .i64))))), .dead, .dead, .sl (.st (.pair (.sl (.int .i64)) .bool)), .data (.int .i64), .dead, .dead, .dead, .dead, .dead, .dead, .dead, .dead, .dead, .dead, .dead, .dead, .dead, .dead, .dead]
abbrev e_lodgeref3_descsOf_0 : List (AX × List Slot) := [(AX.exit 0, [.dead, .dead, .dead, .sl (.st (.pair (.sl (.int .i64)) .bool)), .dead, .dead, .dead, .dead, .dead, .dead, .dead, .dead, .dead, .dead, .dead, .dead, .dead, .dead, .dead, .dead])]
def g_lodgeref3_descsOf_0 (N : Nat) : Nat → List (((List Int × Bool) × List Int)) → List ((List Int × Bool)) → Int → Option (List ((List Int × Bool)) × Unit)
  | 0, _, _, _ => none
  | n + 1, ins_0, out_3, i_4 =>
    cond (decide (i_4 < (Nat.cast (List.length ins_0) : Int)))
      (
      cond (decide ((0 : Int) ≤ i_4))
        (
        cond (decide ((Int.toNat i_4) < (List.length ins_0)))
          (
          cond (decide (((0 : Nat) + (List.length out_3)) = (List.length out_3)))
            (
            cond (decide ((((List.length out_3) + 1) * (32 + (1 : Nat))) ≤ Go.Eng.most))
              (
              cond (decide (((List.length out_3) + 1) = (List.length ((List.take (List.length out_3) out_3) ++ (((List.getD ins_0 (Int.toNat i_4) ((([] : List Int), false), ([] : List Int)))).1 :: ([] : List ((List Int) × Bool)))))))
                (
                (g_lodgeref3_descsOf_0 N n ins_0 ((List.take (List.length out_3) out_3) ++ (((List.getD ins_0 (Int.toNat i_4) ((([] : List Int), false), ([] : List Int)))).1 :: ([] : List ((List Int) × Bool)))) (wi64 (i_4 + (1 : Int)))))
                (
                none))
              (
              none))
            (
            none))
          (
          none))
        (
        none))
      (
      cond (decide ((List.length out_3) = (List.length out_3)))
        (
        some (out_3, ()))
        (
        none))

def F_lodgeref3_descsOf (N : Nat) (ins_0 : List (((List Int × Bool) × List Int))) : Option (List ((List Int × Bool)) × Unit) :=
  Option.bind (g_lodgeref3_descsOf_0 N N ins_0 ([] : List ((List Int) × Bool)) (0 : Int)) fun y0 =>
  cond (decide ((List.length (y0).1) = (List.length (y0).1)))
    (
    some y0)
    (
    none)

abbrev c_lodgeref3_descsOf (N : Nat) : CallSpec := ⟨31, ps_lodgeref3_descsOf, rs_lodgeref3_descsOf, fun x => F_lodgeref3_descsOf N x.1⟩
abbrev l_lodgeref3_descsOf_0 (N : Nat) : LoopSpec := ⟨0, h_lodgeref3_descsOf_0, e_lodgeref3_descsOf_0, fun x => g_lodgeref3_descsOf_0 N N x.1 x.2.1 x.2.2.1⟩

theorem cs_lodgeref3_descsOf_ok (S : Nat → Addr) (N : Nat) : CallsOK Go.Proofs.Tryz.prog E S (cs_lodgeref3_descsOf N) :=
  .nil
noncomputable abbrev b_lodgeref3_descsOf_0 : Code := (loopsOf b_lodgeref3_descsOf).getD 0 .skip
theorem g_lodgeref3_descsOf_0_ok (S : Nat → Addr) (N : Nat) : ∀ n x y, (fun (x : Val (slotsTy h_lodgeref3_descsOf_0)) => g_lodgeref3_descsOf_0 N n x.1 x.2.1 x.2.2.1) x = some y → LoopCon Go.Proofs.Tryz.prog E S b_lodgeref3_descsOf_0 (encSlots h_lodgeref3_descsOf_0 x) (encEx e_lodgeref3_descsOf_0 y).1 (encEx e_lodgeref3_descsOf_0 y).2 :=
  loop_spec E_ok mixed (cs_lodgeref3_descsOf_ok S N) (all := loopsOf b_lodgeref3_descsOf) (ls := []) (.nil) (i := 0) (by kernel_rfl) (inner_of (by kernel_rfl)) (head := h_lodgeref3_descsOf_0) (ex := e_lodgeref3_descsOf_0) (fun n (x : Val (slotsTy h_lodgeref3_descsOf_0)) => g_lodgeref3_descsOf_0 N n x.1 x.2.1 x.2.2.1) (fun _ => rfl) (fun n x => by kernel_rfl)
theorem F_lodgeref3_descsOf_ok (S : Nat → Addr) (N : Nat) : ∀ x y, (c_lodgeref3_descsOf N).g x = some y → FCon Go.Proofs.Tryz.prog E S 31 ps_lodgeref3_descsOf rs_lodgeref3_descsOf x y := by
  intro x y h
  exact fun_spec E_ok mixed (cs_lodgeref3_descsOf_ok S N) (f := 31) (fi := ⟨b_lodgeref3_descsOf, 20, Go.Proofs.Tryz.f31.results.toList⟩) (by kernel_rfl) (ls := [l_lodgeref3_descsOf_0 N]) (.cons (by kernel_rfl) (g_lodgeref3_descsOf_0_ok S N N) (.nil)) (by kernel_rfl) (ps := ps_lodgeref3_descsOf) (rs := rs_lodgeref3_descsOf) (Eq.trans (b := F_lodgeref3_descsOf N x.1) (by kernel_rfl) h)

/-! lodge/lodgeref3.Zero -/

abbrev ps_lodgeref3_Zero : List Ty := [(.st (.pair (.sl (.int .i64)) .bool))]
abbrev rs_lodgeref3_Zero : List Slot := [.ag [.sl (.int .i64), .d .bool, .sl (.int .i64)]]
abbrev cs_lodgeref3_Zero (N : Nat) : List CallSpec := [c_lodgeref_Desc N, c_lodgeref3_Elems N]
noncomputable abbrev b_lodgeref3_Zero : Code := (Go.Proofs.Tryz.f33.body).getD .skip

def F_lodgeref3_Zero (N : Nat) (d_0 : (List Int × Bool)) : Option ((List Int × (Bool × (List Int × Unit))) × Unit) :=
  Option.bind (F_lodgeref_Desc N d_0) fun y0 =>
  Option.bind (F_lodgeref3_Elems N (d_0).1) fun y1 =>
  cond (decide ((0 : Int) ≤ (y1).1))
    (
    cond (decide ((y1).1 ≤ (y1).1))
      (
      cond (decide (((y1).1 * ((Nat.cast 8 : Int) + (1 : Int))) ≤ (Nat.cast Go.Eng.most : Int)))
        (
        cond (decide ((List.length ((y0).1).1) = (List.length ((y0).1).1)))
          (
          cond (decide ((Int.toNat (y1).1) = (List.length (List.replicate (Int.toNat (y1).1) (0 : Int)))))
            (
            some ((((y0).1).1, ((((y0).1).2).1, ((List.replicate (Int.toNat (y1).1) (0 : Int)), ()))), ()))
            (
            none))
          (
          none))
        (
        none))
      (
      none))
    (
    none)

abbrev c_lodgeref3_Zero (N : Nat) : CallSpec := ⟨33, ps_lodgeref3_Zero, rs_lodgeref3_Zero, fun x => F_lodgeref3_Zero N x.1⟩

theorem cs_lodgeref3_Zero_ok (S : Nat → Addr) (N : Nat) : CallsOK Go.Proofs.Tryz.prog E S (cs_lodgeref3_Zero N) :=
  .cons (F_lodgeref_Desc_ok S N) (.cons (F_lodgeref3_Elems_ok S N) (.nil))
theorem F_lodgeref3_Zero_ok (S : Nat → Addr) (N : Nat) : ∀ x y, (c_lodgeref3_Zero N).g x = some y → FCon Go.Proofs.Tryz.prog E S 33 ps_lodgeref3_Zero rs_lodgeref3_Zero x y := by
  intro x y h
  exact fun_spec E_ok mixed (cs_lodgeref3_Zero_ok S N) (f := 33) (fi := ⟨b_lodgeref3_Zero, 10, Go.Proofs.Tryz.f33.results.toList⟩) (by kernel_rfl) (ls := []) (.nil) (by kernel_rfl) (ps := ps_lodgeref3_Zero) (rs := rs_lodgeref3_Zero) (Eq.trans (b := F_lodgeref3_Zero N x.1) (by kernel_rfl) h)

/-! lodge/lodgeref3.Wide -/

abbrev ps_lodgeref3_Wide : List Ty := [(.int .i64)]
abbrev rs_lodgeref3_Wide : List Slot := [.data (.int .i64)]
abbrev cs_lodgeref3_Wide (N : Nat) : List CallSpec := []
noncomputable abbrev b_lodgeref3_Wide : Code := (Go.Proofs.Tryz.f66.body).getD .skip

def F_lodgeref3_Wide (N : Nat) (n_0 : Int) : Option (Int × Unit) :=
  some ((wi64 (wi32 (wu32 (wu64 n_0)))), ())

abbrev c_lodgeref3_Wide (N : Nat) : CallSpec := ⟨66, ps_lodgeref3_Wide, rs_lodgeref3_Wide, fun x => F_lodgeref3_Wide N x.1⟩

theorem cs_lodgeref3_Wide_ok (S : Nat → Addr) (N : Nat) : CallsOK Go.Proofs.Tryz.prog E S (cs_lodgeref3_Wide N) :=
  .nil
theorem F_lodgeref3_Wide_ok (S : Nat → Addr) (N : Nat) : ∀ x y, (c_lodgeref3_Wide N).g x = some y → FCon Go.Proofs.Tryz.prog E S 66 ps_lodgeref3_Wide rs_lodgeref3_Wide x y := by
  intro x y h
  exact fun_spec E_ok mixed (cs_lodgeref3_Wide_ok S N) (f := 66) (fi := ⟨b_lodgeref3_Wide, 8, Go.Proofs.Tryz.f66.results.toList⟩) (by kernel_rfl) (ls := []) (.nil) (by kernel_rfl) (ps := ps_lodgeref3_Wide) (rs := rs_lodgeref3_Wide) (Eq.trans (b := F_lodgeref3_Wide N x.1) (by kernel_rfl) h)

/-! lodge/lodgeref3.Cut -/

abbrev ps_lodgeref3_Cut : List Ty := [(.int .i64), (.int .i64), (.int .i64)]
abbrev rs_lodgeref3_Cut : List Slot := [.data (.int .i64)]
abbrev cs_lodgeref3_Cut (N : Nat) : List CallSpec := []
noncomputable abbrev b_lodgeref3_Cut : Code := (Go.Proofs.Tryz.f70.body).getD .skip

def F_lodgeref3_Cut (N : Nat) (n_0 : Int) (from_1 : Int) (to_2 : Int) : Option (Int × Unit) :=
  cond (decide (n_0 < from_1))
    (
    some (from_1, ()))
    (
    cond (decide (to_2 < n_0))
      (
      some (to_2, ()))
      (
      some (n_0, ())))

abbrev c_lodgeref3_Cut (N : Nat) : CallSpec := ⟨70, ps_lodgeref3_Cut, rs_lodgeref3_Cut, fun x => F_lodgeref3_Cut N x.1 x.2.1 x.2.2.1⟩

theorem cs_lodgeref3_Cut_ok (S : Nat → Addr) (N : Nat) : CallsOK Go.Proofs.Tryz.prog E S (cs_lodgeref3_Cut N) :=
  .nil
theorem F_lodgeref3_Cut_ok (S : Nat → Addr) (N : Nat) : ∀ x y, (c_lodgeref3_Cut N).g x = some y → FCon Go.Proofs.Tryz.prog E S 70 ps_lodgeref3_Cut rs_lodgeref3_Cut x y := by
  intro x y h
  exact fun_spec E_ok mixed (cs_lodgeref3_Cut_ok S N) (f := 70) (fi := ⟨b_lodgeref3_Cut, 16, Go.Proofs.Tryz.f70.results.toList⟩) (by kernel_rfl) (ls := []) (.nil) (by kernel_rfl) (ps := ps_lodgeref3_Cut) (rs := rs_lodgeref3_Cut) (Eq.trans (b := F_lodgeref3_Cut N x.1 x.2.1 x.2.2.1) (by kernel_rfl) h)

/-! lodge/lodgeref3.kept -/

abbrev ps_lodgeref3_kept : List Ty := [(.int .i64), .bool]
abbrev rs_lodgeref3_kept : List Slot := [.data (.int .i64)]
abbrev cs_lodgeref3_kept (N : Nat) : List CallSpec := [c_lodgeref3_Wide N, c_lodgeref3_Cut N]
noncomputable abbrev b_lodgeref3_kept : Code := (Go.Proofs.Tryz.f91.body).getD .skip

def F_lodgeref3_kept (N : Nat) (n_0 : Int) (wide_1 : Bool) : Option (Int × Unit) :=
  cond wide_1
    (
    Option.bind (F_lodgeref3_Wide N n_0) fun y0 =>
    some y0)
    (
    Option.bind (F_lodgeref3_Cut N n_0 (-(128 : Int)) (127 : Int)) fun y1 =>
    some y1)

abbrev c_lodgeref3_kept (N : Nat) : CallSpec := ⟨91, ps_lodgeref3_kept, rs_lodgeref3_kept, fun x => F_lodgeref3_kept N x.1 x.2.1⟩

theorem cs_lodgeref3_kept_ok (S : Nat → Addr) (N : Nat) : CallsOK Go.Proofs.Tryz.prog E S (cs_lodgeref3_kept N) :=
  .cons (F_lodgeref3_Wide_ok S N) (.cons (F_lodgeref3_Cut_ok S N) (.nil))
theorem F_lodgeref3_kept_ok (S : Nat → Addr) (N : Nat) : ∀ x y, (c_lodgeref3_kept N).g x = some y → FCon Go.Proofs.Tryz.prog E S 91 ps_lodgeref3_kept rs_lodgeref3_kept x y := by
  intro x y h
  exact fun_spec E_ok mixed (cs_lodgeref3_kept_ok S N) (f := 91) (fi := ⟨b_lodgeref3_kept, 10, Go.Proofs.Tryz.f91.results.toList⟩) (by kernel_rfl) (ls := []) (.nil) (by kernel_rfl) (ps := ps_lodgeref3_kept) (rs := rs_lodgeref3_kept) (Eq.trans (b := F_lodgeref3_kept N x.1 x.2.1) (by kernel_rfl) h)

/-! lodge/lodgeref3.Requant -/

abbrev ps_lodgeref3_Requant : List Ty := [(.int .i64), (.int .i64), (.int .i64), (.int .i64)]
abbrev rs_lodgeref3_Requant : List Slot := [.data (.int .i64)]
abbrev cs_lodgeref3_Requant (N : Nat) : List CallSpec := [c_lodgeref3_Cut N]
noncomputable abbrev b_lodgeref3_Requant : Code := (Go.Proofs.Tryz.f92.body).getD .skip

def F_lodgeref3_Requant (N : Nat) (x_0 : Int) (mult_1 : Int) (shift_2 : Int) (zero_3 : Int) : Option (Int × Unit) :=
  Option.bind (F_lodgeref3_Cut N x_0 (-(2147483648 : Int)) (2147483647 : Int)) fun y0 =>
  Option.bind (F_lodgeref3_Cut N mult_1 (0 : Int) (2147483647 : Int)) fun y1 =>
  Option.bind (F_lodgeref3_Cut N shift_2 (0 : Int) (62 : Int)) fun y2 =>
  cond (decide ((0 : Int) < (y2).1))
    (
    cond (decide ((0 : Int) ≤ (wu64 (wi64 ((y2).1 - (1 : Int))))))
      (
      cond (decide ((0 : Int) ≤ (wu64 (y2).1)))
        (
        Option.bind (F_lodgeref3_Cut N (Go.Eng.shrI Go.IntKind.i64 (wi64 ((wi64 ((y0).1 * (y1).1)) + (Go.Eng.shlI Go.IntKind.i64 (1 : Int) (wu64 (wi64 ((y2).1 - (1 : Int))))))) (wu64 (y2).1)) (-(1099511627776 : Int)) (1099511627776 : Int)) fun y3 =>
        Option.bind (F_lodgeref3_Cut N zero_3 (-(128 : Int)) (127 : Int)) fun y4 =>
        Option.bind (F_lodgeref3_Cut N (wi64 ((y3).1 + (y4).1)) (-(128 : Int)) (127 : Int)) fun y5 =>
        some y5)
        (
        none))
      (
      none))
    (
    Option.bind (F_lodgeref3_Cut N (wi64 ((y0).1 * (y1).1)) (-(1099511627776 : Int)) (1099511627776 : Int)) fun y6 =>
    Option.bind (F_lodgeref3_Cut N zero_3 (-(128 : Int)) (127 : Int)) fun y7 =>
    Option.bind (F_lodgeref3_Cut N (wi64 ((y6).1 + (y7).1)) (-(128 : Int)) (127 : Int)) fun y8 =>
    some y8)

abbrev c_lodgeref3_Requant (N : Nat) : CallSpec := ⟨92, ps_lodgeref3_Requant, rs_lodgeref3_Requant, fun x => F_lodgeref3_Requant N x.1 x.2.1 x.2.2.1 x.2.2.2.1⟩

theorem cs_lodgeref3_Requant_ok (S : Nat → Addr) (N : Nat) : CallsOK Go.Proofs.Tryz.prog E S (cs_lodgeref3_Requant N) :=
  .cons (F_lodgeref3_Cut_ok S N) (.nil)
theorem F_lodgeref3_Requant_ok (S : Nat → Addr) (N : Nat) : ∀ x y, (c_lodgeref3_Requant N).g x = some y → FCon Go.Proofs.Tryz.prog E S 92 ps_lodgeref3_Requant rs_lodgeref3_Requant x y := by
  intro x y h
  exact fun_spec E_ok mixed (cs_lodgeref3_Requant_ok S N) (f := 92) (fi := ⟨b_lodgeref3_Requant, 36, Go.Proofs.Tryz.f92.results.toList⟩) (by kernel_rfl) (ls := []) (.nil) (by kernel_rfl) (ps := ps_lodgeref3_Requant) (rs := rs_lodgeref3_Requant) (Eq.trans (b := F_lodgeref3_Requant N x.1 x.2.1 x.2.2.1 x.2.2.2.1) (by kernel_rfl) h)

/-! lodge/lodgeref3.Value -/

abbrev ps_lodgeref3_Value : List Ty := [(.int .i64), .bool, (.int .i64), (.int .i64), (.sl (.int .i64))]
abbrev rs_lodgeref3_Value : List Slot := [.data (.int .i64)]
abbrev cs_lodgeref3_Value (N : Nat) : List CallSpec := [c_lodgeref3_Cut N, c_lodgeref3_kept N, c_lodgeref3_Requant N]
noncomputable abbrev b_lodgeref3_Value : Code := (Go.Proofs.Tryz.f65.body).getD .skip

def F_lodgeref3_Value (N : Nat) (op_0 : Int) (wide_1 : Bool) (x_2 : Int) (y_3 : Int) (args_4 : List Int) : Option (Int × Unit) :=
  cond (decide (op_0 = (4 : Int)))
    (
    Option.bind (F_lodgeref3_kept N (wi64 (x_2 + y_3)) wide_1) fun y0 =>
    some y0)
    (
    cond (decide (op_0 = (5 : Int)))
      (
      Option.bind (F_lodgeref3_kept N (wi64 (x_2 - y_3)) wide_1) fun y1 =>
      some y1)
      (
      cond (decide (op_0 = (6 : Int)))
        (
        Option.bind (F_lodgeref3_kept N (wi64 (x_2 * y_3)) wide_1) fun y2 =>
        some y2)
        (
        cond (decide (op_0 = (7 : Int)))
          (
          some ((Go.Eng.imax x_2 y_3), ()))
          (
          cond (decide (op_0 = (8 : Int)))
            (
            some ((Go.Eng.imax x_2 (0 : Int)), ()))
            (
            cond (decide (op_0 = (9 : Int)))
              (
              cond (decide (0 < (List.length args_4)))
                (
                cond (decide (1 < (List.length args_4)))
                  (
                  Option.bind (F_lodgeref3_Cut N x_2 (List.getD args_4 0 (0 : Int)) (List.getD args_4 1 (0 : Int))) fun y3 =>
                  some y3)
                  (
                  none))
                (
                none))
              (
              cond (decide (op_0 = (10 : Int)))
                (
                cond (decide (0 < (List.length args_4)))
                  (
                  cond (decide (1 < (List.length args_4)))
                    (
                    cond (decide (2 < (List.length args_4)))
                      (
                      Option.bind (F_lodgeref3_Requant N x_2 (List.getD args_4 0 (0 : Int)) (List.getD args_4 1 (0 : Int)) (List.getD args_4 2 (0 : Int))) fun y4 =>
                      some y4)
                      (
                      none))
                    (
                    none))
                  (
                  none))
                (
                cond (decide (op_0 = (11 : Int)))
                  (
                  cond (decide (0 < (List.length args_4)))
                    (
                    some ((wi64 (x_2 - (List.getD args_4 0 (0 : Int)))), ()))
                    (
                    none))
                  (
                  some ((0 : Int), ())))))))))

abbrev c_lodgeref3_Value (N : Nat) : CallSpec := ⟨65, ps_lodgeref3_Value, rs_lodgeref3_Value, fun x => F_lodgeref3_Value N x.1 x.2.1 x.2.2.1 x.2.2.2.1 x.2.2.2.2.1⟩

theorem cs_lodgeref3_Value_ok (S : Nat → Addr) (N : Nat) : CallsOK Go.Proofs.Tryz.prog E S (cs_lodgeref3_Value N) :=
  .cons (F_lodgeref3_Cut_ok S N) (.cons (F_lodgeref3_kept_ok S N) (.cons (F_lodgeref3_Requant_ok S N) (.nil)))
theorem F_lodgeref3_Value_ok (S : Nat → Addr) (N : Nat) : ∀ x y, (c_lodgeref3_Value N).g x = some y → FCon Go.Proofs.Tryz.prog E S 65 ps_lodgeref3_Value rs_lodgeref3_Value x y := by
  intro x y h
  exact fun_spec E_ok mixed (cs_lodgeref3_Value_ok S N) (f := 65) (fi := ⟨b_lodgeref3_Value, 72, Go.Proofs.Tryz.f65.results.toList⟩) (by kernel_rfl) (ls := []) (.nil) (by kernel_rfl) (ps := ps_lodgeref3_Value) (rs := rs_lodgeref3_Value) (Eq.trans (b := F_lodgeref3_Value N x.1 x.2.1 x.2.2.1 x.2.2.2.1 x.2.2.2.2.1) (by kernel_rfl) h)


end Go.Proofs.YtnblnlanicpagaaGreatDoor.Lg
