/-
  The functions of the seat's program, as plain functions.
-/
import Derived.Test.YtnblnlanicpagaaDoorLgOpAFb
namespace Go.Proofs.YtnblnlanicpagaaDoor.Lg
open Go Go.Eng Go.Proofs
set_option maxRecDepth 100000

/-! lodge/mat.At -/

abbrev ps_mat_At : List Ty := [(.int .i64), (.int .i64), (.clo 77 (.ref (.st (.pair (.st (.pair (.sl (.int .i64)) .bool)) (.sl (.int .i64)))))), (.clo 77 (.ref (.st (.pair (.st (.pair (.sl (.int .i64)) .bool)) (.sl (.int .i64)))))), (.int .i64), (.int .i64), (.int .i64)]
abbrev rs_mat_At : List Slot := [.data (.int .i64)]
abbrev cs_mat_At (N : Nat) : List CallSpec := [c_op_reads_1 N, c_tens_Wide N]
noncomputable abbrev b_mat_At : Code := (Go.Proofs.Tryd.f79.body).getD .skip

abbrev h_mat_At_0 : List Slot := [.data (.int .i64), .data (.int .i64), .data (.clo 77 (.ref (.st (.pair (.st (.pair (.sl (.int .i64)) .bool)) (.sl (.int .i64)))))), .data (.clo 77 (.ref (.st (.pair (.st (.pair (.sl (.int .i64)) .bool)) (.sl (.int .i64)))))), .data (.int .i64), .data (.int .i64), .dead, .dead, .dead, .dead, .dead, .dead, .dead, .dead, .dead, .data (.int .i64), .data (.int .i64), .data (.int .i64), .dead, .dead, .dead, .dead, .dead, .dead, .dead, .data (.int .i64), .data (.int .i64), .dead, .dead, .dead, .dead, .dead, .dead, .dead, .dead, .dead, .dead, .dead, .dead, .dead, .dead, .dead, .dead, .dead, .dead, .dead, .dead, .dead, .dead, .dead, .dead, .dead, .dead]
abbrev e_mat_At_0 : List (AX × List Slot) := [(AX.exit 0, [.dead, .dead, .dead, .dead, .dead, .dead, .dead, .dead, .dead, .dead, .dead, .dead, .dead, .dead, .dead, .data (.int .i64), .dead, .dead, .dead, .dead, .dead, .dead, .dead, .dead, .dead, .dead, .dead, .dead, .dead, .dead, .dead, .dead, .dead, .dead, .dead, .dead, .dead, .dead, .dead, .dead, .dead, .dead, .dead, .dead, .dead, .dead, .dead, .dead, .dead, .dead, .dead, .dead, .dead])]
def g_mat_At_0 (N : Nat) : Nat → Int → Int → ((List Int × Bool) × List Int) → ((List Int × Bool) × List Int) → Int → Int → Int → Int → Int → Int → Int → Option (Int × Unit)
  | 0, _, _, _, _, _, _, _, _, _, _, _ => none
  | n + 1, k_0, n_1, a_2, b_3, za_4, zb_5, s_15, row_16, col_17, t_25, t_26 =>
    cond (decide (t_26 < t_25))
      (
      Option.bind (F_op_reads_1 N (wi64 ((wi64 (row_16 * k_0)) + t_26)) a_2) fun y2 =>
      Option.bind (F_op_reads_1 N (wi64 ((wi64 (t_26 * n_1)) + col_17)) b_3) fun y3 =>
      (g_mat_At_0 N n k_0 n_1 a_2 b_3 za_4 zb_5 (wi64 (s_15 + (wi64 ((wi64 ((y2).1 - za_4)) * (wi64 ((y3).1 - zb_5)))))) row_16 col_17 t_25 (wi64 (t_26 + (1 : Int)))))
      (
      some (s_15, ()))

def F_mat_At (N : Nat) (k_0 : Int) (n_1 : Int) (a_2 : ((List Int × Bool) × List Int)) (b_3 : ((List Int × Bool) × List Int)) (za_4 : Int) (zb_5 : Int) (i_6 : Int) : Option (Int × Unit) :=
  cond (decide (@Ne Int n_1 (0 : Int)))
    (
    cond (decide (@Ne Int n_1 (0 : Int)))
      (
      Option.bind (g_mat_At_0 N N k_0 n_1 a_2 b_3 za_4 zb_5 (0 : Int) (wi64 (Int.tdiv i_6 n_1)) (Int.tmod i_6 n_1) k_0 (0 : Int)) fun y0 =>
      Option.bind (F_tens_Wide N (y0).1) fun y1 =>
      some y1)
      (
      none))
    (
    none)

abbrev c_mat_At (N : Nat) : CallSpec := ⟨79, ps_mat_At, rs_mat_At, fun x => F_mat_At N x.1 x.2.1 x.2.2.1 x.2.2.2.1 x.2.2.2.2.1 x.2.2.2.2.2.1 x.2.2.2.2.2.2.1⟩
abbrev l_mat_At_0 (N : Nat) : LoopSpec := ⟨0, h_mat_At_0, e_mat_At_0, fun x => g_mat_At_0 N N x.1 x.2.1 x.2.2.1 x.2.2.2.1 x.2.2.2.2.1 x.2.2.2.2.2.1 x.2.2.2.2.2.2.1 x.2.2.2.2.2.2.2.1 x.2.2.2.2.2.2.2.2.1 x.2.2.2.2.2.2.2.2.2.1 x.2.2.2.2.2.2.2.2.2.2.1⟩

theorem cs_mat_At_ok (S : Nat → Addr) (N : Nat) : CallsOK Go.Proofs.Tryd.prog E S (cs_mat_At N) :=
  .cons (F_op_reads_1_ok S N) (.cons (F_tens_Wide_ok S N) (.nil))
noncomputable abbrev b_mat_At_0 : Code := (loopsOf b_mat_At).getD 0 .skip
theorem g_mat_At_0_ok (S : Nat → Addr) (N : Nat) : ∀ n x y, (fun (x : Val (slotsTy h_mat_At_0)) => g_mat_At_0 N n x.1 x.2.1 x.2.2.1 x.2.2.2.1 x.2.2.2.2.1 x.2.2.2.2.2.1 x.2.2.2.2.2.2.1 x.2.2.2.2.2.2.2.1 x.2.2.2.2.2.2.2.2.1 x.2.2.2.2.2.2.2.2.2.1 x.2.2.2.2.2.2.2.2.2.2.1) x = some y → LoopCon Go.Proofs.Tryd.prog E S b_mat_At_0 (encSlots h_mat_At_0 x) (encEx e_mat_At_0 y).1 (encEx e_mat_At_0 y).2 :=
  loop_spec E_ok mixed (cs_mat_At_ok S N) (all := loopsOf b_mat_At) (ls := []) (.nil) (i := 0) (by kernel_rfl) (inner_of (by kernel_rfl)) (head := h_mat_At_0) (ex := e_mat_At_0) (fun n (x : Val (slotsTy h_mat_At_0)) => g_mat_At_0 N n x.1 x.2.1 x.2.2.1 x.2.2.2.1 x.2.2.2.2.1 x.2.2.2.2.2.1 x.2.2.2.2.2.2.1 x.2.2.2.2.2.2.2.1 x.2.2.2.2.2.2.2.2.1 x.2.2.2.2.2.2.2.2.2.1 x.2.2.2.2.2.2.2.2.2.2.1) (fun _ => rfl) (fun n x => by kernel_rfl)
theorem F_mat_At_ok (S : Nat → Addr) (N : Nat) : ∀ x y, (c_mat_At N).g x = some y → FCon Go.Proofs.Tryd.prog E S 79 ps_mat_At rs_mat_At x y := by
  intro x y h
  exact fun_spec E_ok mixed (cs_mat_At_ok S N) (f := 79) (fi := ⟨b_mat_At, 53, Go.Proofs.Tryd.f79.results.toList⟩) (by kernel_rfl) (ls := [l_mat_At_0 N]) (.cons (by kernel_rfl) (g_mat_At_0_ok S N N) (.nil)) (by kernel_rfl) (ps := ps_mat_At) (rs := rs_mat_At) (Eq.trans (b := F_mat_At N x.1 x.2.1 x.2.2.1 x.2.2.2.1 x.2.2.2.2.1 x.2.2.2.2.2.1 x.2.2.2.2.2.2.1) (by kernel_rfl) h)

/-! lodge/conv.Inside -/

abbrev ps_conv_Inside : List Ty := [(.int .i64), (.int .i64), (.int .i64), (.int .i64), (.int .i64)]
abbrev rs_conv_Inside : List Slot := [.data (.int .i64), .data (.int .i64)]
abbrev cs_conv_Inside (N : Nat) : List CallSpec := []
noncomputable abbrev b_conv_Inside : Code := (Go.Proofs.Tryd.f90.body).getD .skip

def F_conv_Inside (N : Nat) (n_0 : Int) (k_1 : Int) (stride_2 : Int) (pad_3 : Int) (o_4 : Int) : Option (Int × (Int × Unit)) :=
  cond (decide (n_0 < (0 : Int)))
    (
    some ((0 : Int), ((0 : Int), ())))
    (
    cond (decide (pad_3 < (0 : Int)))
      (
      some ((0 : Int), ((0 : Int), ())))
      (
      cond (decide (o_4 < (0 : Int)))
        (
        some ((0 : Int), ((0 : Int), ())))
        (
        cond (decide (k_1 < (1 : Int)))
          (
          some ((0 : Int), ((0 : Int), ())))
          (
          cond (decide (n_0 < (1 : Int)))
            (
            some ((0 : Int), ((0 : Int), ())))
            (
            cond (decide (stride_2 < (1 : Int)))
              (
              some ((0 : Int), ((0 : Int), ())))
              (
              cond (decide ((1048576 : Int) < (Go.Eng.imax (Go.Eng.imax (Go.Eng.imax (Go.Eng.imax n_0 k_1) stride_2) pad_3) o_4)))
                (
                some ((0 : Int), ((0 : Int), ())))
                (
                cond (decide ((Go.Eng.imin k_1 (wi64 (n_0 - (wi64 ((wi64 (o_4 * stride_2)) - pad_3))))) ≤ (Go.Eng.imax (0 : Int) (wi64 ((0 : Int) - (wi64 ((wi64 (o_4 * stride_2)) - pad_3)))))))
                  (
                  some ((0 : Int), ((0 : Int), ())))
                  (
                  some ((Go.Eng.imax (0 : Int) (wi64 ((0 : Int) - (wi64 ((wi64 (o_4 * stride_2)) - pad_3))))), ((Go.Eng.imin k_1 (wi64 (n_0 - (wi64 ((wi64 (o_4 * stride_2)) - pad_3))))), ()))))))))))

abbrev c_conv_Inside (N : Nat) : CallSpec := ⟨90, ps_conv_Inside, rs_conv_Inside, fun x => F_conv_Inside N x.1 x.2.1 x.2.2.1 x.2.2.2.1 x.2.2.2.2.1⟩

theorem cs_conv_Inside_ok (S : Nat → Addr) (N : Nat) : CallsOK Go.Proofs.Tryd.prog E S (cs_conv_Inside N) :=
  .nil
theorem F_conv_Inside_ok (S : Nat → Addr) (N : Nat) : ∀ x y, (c_conv_Inside N).g x = some y → FCon Go.Proofs.Tryd.prog E S 90 ps_conv_Inside rs_conv_Inside x y := by
  intro x y h
  exact fun_spec E_ok mixed (cs_conv_Inside_ok S N) (f := 90) (fi := ⟨b_conv_Inside, 64, Go.Proofs.Tryd.f90.results.toList⟩) (by kernel_rfl) (ls := []) (.nil) (by kernel_rfl) (ps := ps_conv_Inside) (rs := rs_conv_Inside) (Eq.trans (b := F_conv_Inside N x.1 x.2.1 x.2.2.1 x.2.2.2.1 x.2.2.2.2.1) (by kernel_rfl) h)

/-! lodge/conv.At -/

abbrev ps_conv_At : List Ty := [(.sl (.int .i64)), (.sl (.int .i64)), (.sl (.int .i64)), (.clo 77 (.ref (.st (.pair (.st (.pair (.sl (.int .i64)) .bool)) (.sl (.int .i64)))))), (.clo 77 (.ref (.st (.pair (.st (.pair (.sl (.int .i64)) .bool)) (.sl (.int .i64)))))), (.int .i64), (.int .i64)]
abbrev rs_conv_At : List Slot := [.data (.int .i64)]
abbrev cs_conv_At (N : Nat) : List CallSpec := [c_op_reads_1 N, c_tens_Wide N, c_conv_Inside N]
noncomputable abbrev b_conv_At : Code := (Go.Proofs.Tryd.f80.body).getD .skip

abbrev h_conv_At_2 : List Slot := [.dead, .data (.sl (.int .i64)), .data (.sl (.int .i64)), .data (.clo 77 (.ref (.st (.pair (.st (.pair (.sl (.int .i64)) .bool)) (.sl (.int .i64)))))), .data (.clo 77 (.ref (.st (.pair (.st (.pair (.sl (.int .i64)) .bool)) (.sl (.int .i64)))))), .dead, .dead, .dead, .dead, .dead, .dead, .dead, .dead, .dead, .dead, .dead, .dead, .data (.int .i64), .data (.int .i64), .data (.int .i64), .data (.int .i64), .dead, .dead, .data (.int .i64), .data (.int .i64), .dead, .data (.int .i64), .data (.int .i64), .data (.int .i64), .data (.int .i64), .data (.int .i64), .data (.int .i64), .dead, .dead, .dead, .dead, .dead, .dead, .dead, .dead, .dead, .dead, .dead, .dead, .dead, .dead, .dead, .dead, .dead, .dead, .dead, .dead, .dead, .dead, .dead, .dead, .dead, .dead, .dead, .dead, .dead, .dead, .dead, .dead, .dead, .dead, .dead, .dead, .dead, .dead, .dead, .dead, .dead, .dead, .dead, .dead, .dead, .dead, .dead, .dead, .dead, .dead, .dead, .dead, .dead, .dead, .dead, .dead, .dead, .dead, .dead, .dead, .dead, .dead, .dead, .dead, .dead, .dead, .dead, .dead, .dead, .dead, .dead, .dead, .dead, .dead, .dead, .dead, .dead, .data (.int .i64), .data (.int .i64), .dead, .dead, .dead, .dead, .dead, .dead, .dead, .dead, .dead, .dead, .dead, .dead, .dead, .dead, .dead, .dead, .dead, .dead, .dead, .dead, .dead, .dead, .dead, .dead, .dead, .dead, .dead, .dead, .dead, .dead, .dead, .dead, .dead, .dead, .dead, .dead, .dead, .dead, .dead, .dead, .dead, .dead, .dead, .dead]
abbrev e_conv_At_2 : List (AX × List Slot) := [(AX.exit 4, [.dead, .data (.sl (.int .i64)), .data (.sl (.int .i64)), .data (.clo 77 (.ref (.st (.pair (.st (.pair (.sl (.int .i64)) .bool)) (.sl (.int .i64)))))), .data (.clo 77 (.ref (.st (.pair (.st (.pair (.sl (.int .i64)) .bool)) (.sl (.int .i64)))))), .dead, .dead, .dead, .dead, .dead, .dead, .dead, .dead, .dead, .dead, .dead, .dead, .data (.int .i64), .data (.int .i64), .data (.int .i64), .data (.int .i64), .dead, .dead, .data (.int .i64), .data (.int .i64), .dead, .data (.int .i64), .data (.int .i64), .data (.int .i64), .data (.int .i64), .data (.int .i64), .data (.int .i64), .dead, .dead, .dead, .dead, .dead, .dead, .dead, .dead, .dead, .dead, .dead, .dead, .dead, .dead, .dead, .dead, .dead, .dead, .dead, .dead, .dead, .dead, .dead, .dead, .dead, .dead, .dead, .dead, .dead, .dead, .dead, .dead, .dead, .dead, .dead, .dead, .dead, .dead, .dead, .dead, .dead, .dead, .dead, .dead, .dead, .dead, .dead, .dead, .dead, .dead, .dead, .dead, .dead, .dead, .dead, .dead, .dead, .dead, .dead, .dead, .dead, .dead, .dead, .dead, .dead, .dead, .dead, .dead, .dead, .dead, .dead, .dead, .dead, .dead, .dead, .dead, .dead, .dead, .dead, .dead, .dead, .dead, .dead, .dead, .dead, .dead, .dead, .dead, .dead, .dead, .dead, .dead, .dead, .dead, .dead, .dead, .dead, .dead, .dead, .dead, .dead, .dead, .dead, .dead, .dead, .dead, .dead, .dead, .dead, .dead, .dead, .dead, .dead, .dead, .dead, .dead, .dead, .dead, .dead, .dead, .dead, .dead, .dead])]
def g_conv_At_2 (N : Nat) : Nat → List Int → List Int → ((List Int × Bool) × List Int) → ((List Int × Bool) × List Int) → Int → Int → Int → Int → Int → Int → Int → Int → Int → Int → Int → Int → Int → Int → Option (List Int × (List Int × (((List Int × Bool) × List Int) × (((List Int × Bool) × List Int) × (Int × (Int × (Int × (Int × (Int × (Int × (Int × (Int × (Int × (Int × (Int × (Int × Unit))))))))))))))))
  | 0, _, _, _, _, _, _, _, _, _, _, _, _, _, _, _, _, _, _ => none
  | n + 1, a_1, k_2, ga_3, gk_4, za_17, c_18, n_19, o_20, top_23, left_24, dyTo_26, dxFrom_27, dxTo_28, s_29, dy_30, dx_31, t_109, t_110 =>
    cond (decide (t_110 < t_109))
      (
      cond (decide (1 < (List.length a_1)))
        (
        Option.bind (F_op_reads_1 N (wi64 ((wi64 ((wi64 ((wi64 ((wi64 ((wi64 (top_23 + dy_30)) * (List.getD a_1 1 (0 : Int)))) + left_24)) + dx_31)) * c_18)) + t_110)) ga_3) fun y4 =>
        cond (decide (1 < (List.length k_2)))
          (
          Option.bind (F_op_reads_1 N (wi64 ((wi64 ((wi64 ((wi64 ((wi64 ((wi64 (dy_30 * (List.getD k_2 1 (0 : Int)))) + dx_31)) * c_18)) + t_110)) * n_19)) + o_20)) gk_4) fun y5 =>
          (g_conv_At_2 N n a_1 k_2 ga_3 gk_4 za_17 c_18 n_19 o_20 top_23 left_24 dyTo_26 dxFrom_27 dxTo_28 (wi64 (s_29 + (wi64 ((wi64 ((y4).1 - za_17)) * (y5).1)))) dy_30 dx_31 t_109 (wi64 (t_110 + (1 : Int)))))
          (
          none))
        (
        none))
      (
      some (a_1, (k_2, (ga_3, (gk_4, (za_17, (c_18, (n_19, (o_20, (top_23, (left_24, (dyTo_26, (dxFrom_27, (dxTo_28, (s_29, (dy_30, (dx_31, ())))))))))))))))))

abbrev h_conv_At_1 : List Slot := [.dead, .data (.sl (.int .i64)), .data (.sl (.int .i64)), .data (.clo 77 (.ref (.st (.pair (.st (.pair (.sl (.int .i64)) .bool)) (.sl (.int .i64)))))), .data (.clo 77 (.ref (.st (.pair (.st (.pair (.sl (.int .i64)) .bool)) (.sl (.int .i64)))))), .dead, .dead, .dead, .dead, .dead, .dead, .dead, .dead, .dead, .dead, .dead, .dead, .data (.int .i64), .data (.int .i64), .data (.int .i64), .data (.int .i64), .dead, .dead, .data (.int .i64), .data (.int .i64), .dead, .data (.int .i64), .data (.int .i64), .data (.int .i64), .data (.int .i64), .data (.int .i64), .data (.int .i64), .dead, .dead, .dead, .dead, .dead, .dead, .dead, .dead, .dead, .dead, .dead, .dead, .dead, .dead, .dead, .dead, .dead, .dead, .dead, .dead, .dead, .dead, .dead, .dead, .dead, .dead, .dead, .dead, .dead, .dead, .dead, .dead, .dead, .dead, .dead, .dead, .dead, .dead, .dead, .dead, .dead, .dead, .dead, .dead, .dead, .dead, .dead, .dead, .dead, .dead, .dead, .dead, .dead, .dead, .dead, .dead, .dead, .dead, .dead, .dead, .dead, .dead, .dead, .dead, .dead, .dead, .dead, .dead, .dead, .dead, .dead, .dead, .dead, .dead, .dead, .dead, .dead, .dead, .dead, .dead, .dead, .dead, .dead, .dead, .dead, .dead, .dead, .dead, .dead, .dead, .dead, .dead, .dead, .dead, .dead, .dead, .dead, .dead, .dead, .dead, .dead, .dead, .dead, .dead, .dead, .dead, .dead, .dead, .dead, .dead, .dead, .dead, .dead, .dead, .dead, .dead, .dead, .dead, .dead, .dead, .dead, .dead, .dead]
abbrev e_conv_At_1 : List (AX × List Slot) := [(AX.exit 1, [.dead, .data (.sl (.int .i64)), .data (.sl (.int .i64)), .data (.clo 77 (.ref (.st (.pair (.st (.pair (.sl (.int .i64)) .bool)) (.sl (.int .i64)))))), .data (.clo 77 (.ref (.st (.pair (.st (.pair (.sl (.int .i64)) .bool)) (.sl (.int .i64)))))), .dead, .dead, .dead, .dead, .dead, .dead, .dead, .dead, .dead, .dead, .dead, .dead, .data (.int .i64), .data (.int .i64), .data (.int .i64), .data (.int .i64), .dead, .dead, .data (.int .i64), .data (.int .i64), .dead, .data (.int .i64), .data (.int .i64), .data (.int .i64), .data (.int .i64), .data (.int .i64), .dead, .dead, .dead, .dead, .dead, .dead, .dead, .dead, .dead, .dead, .dead, .dead, .dead, .dead, .dead, .dead, .dead, .dead, .dead, .dead, .dead, .dead, .dead, .dead, .dead, .dead, .dead, .dead, .dead, .dead, .dead, .dead, .dead, .dead, .dead, .dead, .dead, .dead, .dead, .dead, .dead, .dead, .dead, .dead, .dead, .dead, .dead, .dead, .dead, .dead, .dead, .dead, .dead, .dead, .dead, .dead, .dead, .dead, .dead, .dead, .dead, .dead, .dead, .dead, .dead, .dead, .dead, .dead, .dead, .dead, .dead, .dead, .dead, .dead, .dead, .dead, .dead, .dead, .dead, .dead, .dead, .dead, .dead, .dead, .dead, .dead, .dead, .dead, .dead, .dead, .dead, .dead, .dead, .dead, .dead, .dead, .dead, .dead, .dead, .dead, .dead, .dead, .dead, .dead, .dead, .dead, .dead, .dead, .dead, .dead, .dead, .dead, .dead, .dead, .dead, .dead, .dead, .dead, .dead, .dead, .dead, .dead, .dead, .dead])]
def g_conv_At_1 (N : Nat) : Nat → List Int → List Int → ((List Int × Bool) × List Int) → ((List Int × Bool) × List Int) → Int → Int → Int → Int → Int → Int → Int → Int → Int → Int → Int → Int → Option (List Int × (List Int × (((List Int × Bool) × List Int) × (((List Int × Bool) × List Int) × (Int × (Int × (Int × (Int × (Int × (Int × (Int × (Int × (Int × (Int × (Int × Unit)))))))))))))))
  | 0, _, _, _, _, _, _, _, _, _, _, _, _, _, _, _, _ => none
  | n + 1, a_1, k_2, ga_3, gk_4, za_17, c_18, n_19, o_20, top_23, left_24, dyTo_26, dxFrom_27, dxTo_28, s_29, dy_30, dx_31 =>
    cond (decide (dxTo_28 ≤ dx_31))
      (
      some (a_1, (k_2, (ga_3, (gk_4, (za_17, (c_18, (n_19, (o_20, (top_23, (left_24, (dyTo_26, (dxFrom_27, (dxTo_28, (s_29, ((wi64 (dy_30 + (1 : Int))), ()))))))))))))))))
      (
      Option.bind (g_conv_At_2 N N a_1 k_2 ga_3 gk_4 za_17 c_18 n_19 o_20 top_23 left_24 dyTo_26 dxFrom_27 dxTo_28 s_29 dy_30 dx_31 c_18 (0 : Int)) fun y7 =>
      (g_conv_At_1 N n (y7).1 ((y7).2).1 (((y7).2).2).1 ((((y7).2).2).2).1 (((((y7).2).2).2).2).1 ((((((y7).2).2).2).2).2).1 (((((((y7).2).2).2).2).2).2).1 ((((((((y7).2).2).2).2).2).2).2).1 (((((((((y7).2).2).2).2).2).2).2).2).1 ((((((((((y7).2).2).2).2).2).2).2).2).2).1 (((((((((((y7).2).2).2).2).2).2).2).2).2).2).1 ((((((((((((y7).2).2).2).2).2).2).2).2).2).2).2).1 (((((((((((((y7).2).2).2).2).2).2).2).2).2).2).2).2).1 ((((((((((((((y7).2).2).2).2).2).2).2).2).2).2).2).2).2).1 (((((((((((((((y7).2).2).2).2).2).2).2).2).2).2).2).2).2).2).1 (wi64 (((((((((((((((((y7).2).2).2).2).2).2).2).2).2).2).2).2).2).2).2).1 + (1 : Int)))))

abbrev h_conv_At_0 : List Slot := [.dead, .data (.sl (.int .i64)), .data (.sl (.int .i64)), .data (.clo 77 (.ref (.st (.pair (.st (.pair (.sl (.int .i64)) .bool)) (.sl (.int .i64)))))), .data (.clo 77 (.ref (.st (.pair (.st (.pair (.sl (.int .i64)) .bool)) (.sl (.int .i64)))))), .dead, .dead, .dead, .dead, .dead, .dead, .dead, .dead, .dead, .dead, .dead, .dead, .data (.int .i64), .data (.int .i64), .data (.int .i64), .data (.int .i64), .dead, .dead, .data (.int .i64), .data (.int .i64), .dead, .data (.int .i64), .data (.int .i64), .data (.int .i64), .data (.int .i64), .data (.int .i64), .dead, .dead, .dead, .dead, .dead, .dead, .dead, .dead, .dead, .dead, .dead, .dead, .dead, .dead, .dead, .dead, .dead, .dead, .dead, .dead, .dead, .dead, .dead, .dead, .dead, .dead, .dead, .dead, .dead, .dead, .dead, .dead, .dead, .dead, .dead, .dead, .dead, .dead, .dead, .dead, .dead, .dead, .dead, .dead, .dead, .dead, .dead, .dead, .dead, .dead, .dead, .dead, .dead, .dead, .dead, .dead, .dead, .dead, .dead, .dead, .dead, .dead, .dead, .dead, .dead, .dead, .dead, .dead, .dead, .dead, .dead, .dead, .dead, .dead, .dead, .dead, .dead, .dead, .dead, .dead, .dead, .dead, .dead, .dead, .dead, .dead, .dead, .dead, .dead, .dead, .dead, .dead, .dead, .dead, .dead, .dead, .dead, .dead, .dead, .dead, .dead, .dead, .dead, .dead, .dead, .dead, .dead, .dead, .dead, .dead, .dead, .dead, .dead, .dead, .dead, .dead, .dead, .dead, .dead, .dead, .dead, .dead, .dead, .dead]
abbrev e_conv_At_0 : List (AX × List Slot) := [(AX.exit 0, [.dead, .dead, .dead, .dead, .dead, .dead, .dead, .dead, .dead, .dead, .dead, .dead, .dead, .dead, .dead, .dead, .dead, .dead, .dead, .dead, .dead, .dead, .dead, .dead, .dead, .dead, .dead, .dead, .dead, .data (.int .i64), .dead, .dead, .dead, .dead, .dead, .dead, .dead, .dead, .dead, .dead, .dead, .dead, .dead, .dead, .dead, .dead, .dead, .dead, .dead, .dead, .dead, .dead, .dead, .dead, .dead, .dead, .dead, .dead, .dead, .dead, .dead, .dead, .dead, .dead, .dead, .dead, .dead, .dead, .dead, .dead, .dead, .dead, .dead, .dead, .dead, .dead, .dead, .dead, .dead, .dead, .dead, .dead, .dead, .dead, .dead, .dead, .dead, .dead, .dead, .dead, .dead, .dead, .dead, .dead, .dead, .dead, .dead, .dead, .dead, .dead, .dead, .dead, .dead, .dead, .dead, .dead, .dead, .dead, .dead, .dead, .dead, .dead, .dead, .dead, .dead, .dead, .dead, .dead, .dead, .dead, .dead, .dead, .dead, .dead, .dead, .dead, .dead, .dead, .dead, .dead, .dead, .dead, .dead, .dead, .dead, .dead, .dead, .dead, .dead, .dead, .dead, .dead, .dead, .dead, .dead, .dead, .dead, .dead, .dead, .dead, .dead, .dead, .dead, .dead, .dead])]
def g_conv_At_0 (N : Nat) : Nat → List Int → List Int → ((List Int × Bool) × List Int) → ((List Int × Bool) × List Int) → Int → Int → Int → Int → Int → Int → Int → Int → Int → Int → Int → Option (Int × Unit)
  | 0, _, _, _, _, _, _, _, _, _, _, _, _, _, _, _ => none
  | n + 1, a_1, k_2, ga_3, gk_4, za_17, c_18, n_19, o_20, top_23, left_24, dyTo_26, dxFrom_27, dxTo_28, s_29, dy_30 =>
    cond (decide (dy_30 < dyTo_26))
      (
      Option.bind (g_conv_At_1 N N a_1 k_2 ga_3 gk_4 za_17 c_18 n_19 o_20 top_23 left_24 dyTo_26 dxFrom_27 dxTo_28 s_29 dy_30 dxFrom_27) fun y9 =>
      (g_conv_At_0 N n (y9).1 ((y9).2).1 (((y9).2).2).1 ((((y9).2).2).2).1 (((((y9).2).2).2).2).1 ((((((y9).2).2).2).2).2).1 (((((((y9).2).2).2).2).2).2).1 ((((((((y9).2).2).2).2).2).2).2).1 (((((((((y9).2).2).2).2).2).2).2).2).1 ((((((((((y9).2).2).2).2).2).2).2).2).2).1 (((((((((((y9).2).2).2).2).2).2).2).2).2).2).1 ((((((((((((y9).2).2).2).2).2).2).2).2).2).2).2).1 (((((((((((((y9).2).2).2).2).2).2).2).2).2).2).2).2).1 ((((((((((((((y9).2).2).2).2).2).2).2).2).2).2).2).2).2).1 (((((((((((((((y9).2).2).2).2).2).2).2).2).2).2).2).2).2).2).1))
      (
      some (s_29, ()))

def F_conv_At (N : Nat) (args_0 : List Int) (a_1 : List Int) (k_2 : List Int) (ga_3 : ((List Int × Bool) × List Int)) (gk_4 : ((List Int × Bool) × List Int)) (i_5 : Int) (ow_6 : Int) : Option (Int × Unit) :=
  cond (decide (0 < (List.length args_0)))
    (
    cond (decide (1 < (List.length args_0)))
      (
      cond (decide (2 < (List.length args_0)))
        (
        cond (decide (2 < (List.length a_1)))
          (
          cond (decide (3 < (List.length k_2)))
            (
            cond (decide (@Ne Int (List.getD k_2 3 (0 : Int)) (0 : Int)))
              (
              cond (decide (@Ne Int (List.getD k_2 3 (0 : Int)) (0 : Int)))
                (
                cond (decide (@Ne Int ow_6 (0 : Int)))
                  (
                  cond (decide (@Ne Int (List.getD k_2 3 (0 : Int)) (0 : Int)))
                    (
                    cond (decide (@Ne Int ow_6 (0 : Int)))
                      (
                      cond (decide (0 < (List.length a_1)))
                        (
                        cond (decide (0 < (List.length k_2)))
                          (
                          Option.bind (F_conv_Inside N (List.getD a_1 0 (0 : Int)) (List.getD k_2 0 (0 : Int)) (List.getD args_0 0 (0 : Int)) (List.getD args_0 1 (0 : Int)) (wi64 (Int.tdiv (wi64 (Int.tdiv i_5 (List.getD k_2 3 (0 : Int)))) ow_6))) fun y0 =>
                          cond (decide (1 < (List.length a_1)))
                            (
                            cond (decide (1 < (List.length k_2)))
                              (
                              Option.bind (F_conv_Inside N (List.getD a_1 1 (0 : Int)) (List.getD k_2 1 (0 : Int)) (List.getD args_0 0 (0 : Int)) (List.getD args_0 1 (0 : Int)) (Int.tmod (wi64 (Int.tdiv i_5 (List.getD k_2 3 (0 : Int)))) ow_6)) fun y1 =>
                              Option.bind (g_conv_At_0 N N a_1 k_2 ga_3 gk_4 (List.getD args_0 2 (0 : Int)) (List.getD a_1 2 (0 : Int)) (List.getD k_2 3 (0 : Int)) (Int.tmod i_5 (List.getD k_2 3 (0 : Int))) (wi64 ((wi64 ((wi64 (Int.tdiv (wi64 (Int.tdiv i_5 (List.getD k_2 3 (0 : Int)))) ow_6)) * (List.getD args_0 0 (0 : Int)))) - (List.getD args_0 1 (0 : Int)))) (wi64 ((wi64 ((Int.tmod (wi64 (Int.tdiv i_5 (List.getD k_2 3 (0 : Int)))) ow_6) * (List.getD args_0 0 (0 : Int)))) - (List.getD args_0 1 (0 : Int)))) ((y0).2).1 (y1).1 ((y1).2).1 (0 : Int) (y0).1) fun y2 =>
                              Option.bind (F_tens_Wide N (y2).1) fun y3 =>
                              some y3)
                              (
                              none))
                            (
                            none))
                          (
                          none))
                        (
                        none))
                      (
                      none))
                    (
                    none))
                  (
                  none))
                (
                none))
              (
              none))
            (
            none))
          (
          none))
        (
        none))
      (
      none))
    (
    none)

abbrev c_conv_At (N : Nat) : CallSpec := ⟨80, ps_conv_At, rs_conv_At, fun x => F_conv_At N x.1 x.2.1 x.2.2.1 x.2.2.2.1 x.2.2.2.2.1 x.2.2.2.2.2.1 x.2.2.2.2.2.2.1⟩
abbrev l_conv_At_2 (N : Nat) : LoopSpec := ⟨2, h_conv_At_2, e_conv_At_2, fun x => g_conv_At_2 N N x.1 x.2.1 x.2.2.1 x.2.2.2.1 x.2.2.2.2.1 x.2.2.2.2.2.1 x.2.2.2.2.2.2.1 x.2.2.2.2.2.2.2.1 x.2.2.2.2.2.2.2.2.1 x.2.2.2.2.2.2.2.2.2.1 x.2.2.2.2.2.2.2.2.2.2.1 x.2.2.2.2.2.2.2.2.2.2.2.1 x.2.2.2.2.2.2.2.2.2.2.2.2.1 x.2.2.2.2.2.2.2.2.2.2.2.2.2.1 x.2.2.2.2.2.2.2.2.2.2.2.2.2.2.1 x.2.2.2.2.2.2.2.2.2.2.2.2.2.2.2.1 x.2.2.2.2.2.2.2.2.2.2.2.2.2.2.2.2.1 x.2.2.2.2.2.2.2.2.2.2.2.2.2.2.2.2.2.1⟩
abbrev l_conv_At_1 (N : Nat) : LoopSpec := ⟨1, h_conv_At_1, e_conv_At_1, fun x => g_conv_At_1 N N x.1 x.2.1 x.2.2.1 x.2.2.2.1 x.2.2.2.2.1 x.2.2.2.2.2.1 x.2.2.2.2.2.2.1 x.2.2.2.2.2.2.2.1 x.2.2.2.2.2.2.2.2.1 x.2.2.2.2.2.2.2.2.2.1 x.2.2.2.2.2.2.2.2.2.2.1 x.2.2.2.2.2.2.2.2.2.2.2.1 x.2.2.2.2.2.2.2.2.2.2.2.2.1 x.2.2.2.2.2.2.2.2.2.2.2.2.2.1 x.2.2.2.2.2.2.2.2.2.2.2.2.2.2.1 x.2.2.2.2.2.2.2.2.2.2.2.2.2.2.2.1⟩
abbrev l_conv_At_0 (N : Nat) : LoopSpec := ⟨0, h_conv_At_0, e_conv_At_0, fun x => g_conv_At_0 N N x.1 x.2.1 x.2.2.1 x.2.2.2.1 x.2.2.2.2.1 x.2.2.2.2.2.1 x.2.2.2.2.2.2.1 x.2.2.2.2.2.2.2.1 x.2.2.2.2.2.2.2.2.1 x.2.2.2.2.2.2.2.2.2.1 x.2.2.2.2.2.2.2.2.2.2.1 x.2.2.2.2.2.2.2.2.2.2.2.1 x.2.2.2.2.2.2.2.2.2.2.2.2.1 x.2.2.2.2.2.2.2.2.2.2.2.2.2.1 x.2.2.2.2.2.2.2.2.2.2.2.2.2.2.1⟩

theorem cs_conv_At_ok (S : Nat → Addr) (N : Nat) : CallsOK Go.Proofs.Tryd.prog E S (cs_conv_At N) :=
  .cons (F_op_reads_1_ok S N) (.cons (F_tens_Wide_ok S N) (.cons (F_conv_Inside_ok S N) (.nil)))
noncomputable abbrev b_conv_At_2 : Code := (loopsOf b_conv_At).getD 2 .skip
theorem g_conv_At_2_ok (S : Nat → Addr) (N : Nat) : ∀ n x y, (fun (x : Val (slotsTy h_conv_At_2)) => g_conv_At_2 N n x.1 x.2.1 x.2.2.1 x.2.2.2.1 x.2.2.2.2.1 x.2.2.2.2.2.1 x.2.2.2.2.2.2.1 x.2.2.2.2.2.2.2.1 x.2.2.2.2.2.2.2.2.1 x.2.2.2.2.2.2.2.2.2.1 x.2.2.2.2.2.2.2.2.2.2.1 x.2.2.2.2.2.2.2.2.2.2.2.1 x.2.2.2.2.2.2.2.2.2.2.2.2.1 x.2.2.2.2.2.2.2.2.2.2.2.2.2.1 x.2.2.2.2.2.2.2.2.2.2.2.2.2.2.1 x.2.2.2.2.2.2.2.2.2.2.2.2.2.2.2.1 x.2.2.2.2.2.2.2.2.2.2.2.2.2.2.2.2.1 x.2.2.2.2.2.2.2.2.2.2.2.2.2.2.2.2.2.1) x = some y → LoopCon Go.Proofs.Tryd.prog E S b_conv_At_2 (encSlots h_conv_At_2 x) (encEx e_conv_At_2 y).1 (encEx e_conv_At_2 y).2 :=
  loop_spec E_ok mixed (cs_conv_At_ok S N) (all := loopsOf b_conv_At) (ls := []) (.nil) (i := 2) (by kernel_rfl) (inner_of (by kernel_rfl)) (head := h_conv_At_2) (ex := e_conv_At_2) (fun n (x : Val (slotsTy h_conv_At_2)) => g_conv_At_2 N n x.1 x.2.1 x.2.2.1 x.2.2.2.1 x.2.2.2.2.1 x.2.2.2.2.2.1 x.2.2.2.2.2.2.1 x.2.2.2.2.2.2.2.1 x.2.2.2.2.2.2.2.2.1 x.2.2.2.2.2.2.2.2.2.1 x.2.2.2.2.2.2.2.2.2.2.1 x.2.2.2.2.2.2.2.2.2.2.2.1 x.2.2.2.2.2.2.2.2.2.2.2.2.1 x.2.2.2.2.2.2.2.2.2.2.2.2.2.1 x.2.2.2.2.2.2.2.2.2.2.2.2.2.2.1 x.2.2.2.2.2.2.2.2.2.2.2.2.2.2.2.1 x.2.2.2.2.2.2.2.2.2.2.2.2.2.2.2.2.1 x.2.2.2.2.2.2.2.2.2.2.2.2.2.2.2.2.2.1) (fun _ => rfl) (fun n x => by kernel_rfl)
noncomputable abbrev b_conv_At_1 : Code := (loopsOf b_conv_At).getD 1 .skip
theorem g_conv_At_1_ok (S : Nat → Addr) (N : Nat) : ∀ n x y, (fun (x : Val (slotsTy h_conv_At_1)) => g_conv_At_1 N n x.1 x.2.1 x.2.2.1 x.2.2.2.1 x.2.2.2.2.1 x.2.2.2.2.2.1 x.2.2.2.2.2.2.1 x.2.2.2.2.2.2.2.1 x.2.2.2.2.2.2.2.2.1 x.2.2.2.2.2.2.2.2.2.1 x.2.2.2.2.2.2.2.2.2.2.1 x.2.2.2.2.2.2.2.2.2.2.2.1 x.2.2.2.2.2.2.2.2.2.2.2.2.1 x.2.2.2.2.2.2.2.2.2.2.2.2.2.1 x.2.2.2.2.2.2.2.2.2.2.2.2.2.2.1 x.2.2.2.2.2.2.2.2.2.2.2.2.2.2.2.1) x = some y → LoopCon Go.Proofs.Tryd.prog E S b_conv_At_1 (encSlots h_conv_At_1 x) (encEx e_conv_At_1 y).1 (encEx e_conv_At_1 y).2 :=
  loop_spec E_ok mixed (cs_conv_At_ok S N) (all := loopsOf b_conv_At) (ls := [l_conv_At_2 N]) (.cons (by kernel_rfl) (g_conv_At_2_ok S N N) (.nil)) (i := 1) (by kernel_rfl) (inner_of (by kernel_rfl)) (head := h_conv_At_1) (ex := e_conv_At_1) (fun n (x : Val (slotsTy h_conv_At_1)) => g_conv_At_1 N n x.1 x.2.1 x.2.2.1 x.2.2.2.1 x.2.2.2.2.1 x.2.2.2.2.2.1 x.2.2.2.2.2.2.1 x.2.2.2.2.2.2.2.1 x.2.2.2.2.2.2.2.2.1 x.2.2.2.2.2.2.2.2.2.1 x.2.2.2.2.2.2.2.2.2.2.1 x.2.2.2.2.2.2.2.2.2.2.2.1 x.2.2.2.2.2.2.2.2.2.2.2.2.1 x.2.2.2.2.2.2.2.2.2.2.2.2.2.1 x.2.2.2.2.2.2.2.2.2.2.2.2.2.2.1 x.2.2.2.2.2.2.2.2.2.2.2.2.2.2.2.1) (fun _ => rfl) (fun n x => by kernel_rfl)
noncomputable abbrev b_conv_At_0 : Code := (loopsOf b_conv_At).getD 0 .skip
theorem g_conv_At_0_ok (S : Nat → Addr) (N : Nat) : ∀ n x y, (fun (x : Val (slotsTy h_conv_At_0)) => g_conv_At_0 N n x.1 x.2.1 x.2.2.1 x.2.2.2.1 x.2.2.2.2.1 x.2.2.2.2.2.1 x.2.2.2.2.2.2.1 x.2.2.2.2.2.2.2.1 x.2.2.2.2.2.2.2.2.1 x.2.2.2.2.2.2.2.2.2.1 x.2.2.2.2.2.2.2.2.2.2.1 x.2.2.2.2.2.2.2.2.2.2.2.1 x.2.2.2.2.2.2.2.2.2.2.2.2.1 x.2.2.2.2.2.2.2.2.2.2.2.2.2.1 x.2.2.2.2.2.2.2.2.2.2.2.2.2.2.1) x = some y → LoopCon Go.Proofs.Tryd.prog E S b_conv_At_0 (encSlots h_conv_At_0 x) (encEx e_conv_At_0 y).1 (encEx e_conv_At_0 y).2 :=
  loop_spec E_ok mixed (cs_conv_At_ok S N) (all := loopsOf b_conv_At) (ls := [l_conv_At_2 N, l_conv_At_1 N]) (.cons (by kernel_rfl) (g_conv_At_2_ok S N N) (.cons (by kernel_rfl) (g_conv_At_1_ok S N N) (.nil))) (i := 0) (by kernel_rfl) (inner_of (by kernel_rfl)) (head := h_conv_At_0) (ex := e_conv_At_0) (fun n (x : Val (slotsTy h_conv_At_0)) => g_conv_At_0 N n x.1 x.2.1 x.2.2.1 x.2.2.2.1 x.2.2.2.2.1 x.2.2.2.2.2.1 x.2.2.2.2.2.2.1 x.2.2.2.2.2.2.2.1 x.2.2.2.2.2.2.2.2.1 x.2.2.2.2.2.2.2.2.2.1 x.2.2.2.2.2.2.2.2.2.2.1 x.2.2.2.2.2.2.2.2.2.2.2.1 x.2.2.2.2.2.2.2.2.2.2.2.2.1 x.2.2.2.2.2.2.2.2.2.2.2.2.2.1 x.2.2.2.2.2.2.2.2.2.2.2.2.2.2.1) (fun _ => rfl) (fun n x => by kernel_rfl)
theorem F_conv_At_ok (S : Nat → Addr) (N : Nat) : ∀ x y, (c_conv_At N).g x = some y → FCon Go.Proofs.Tryd.prog E S 80 ps_conv_At rs_conv_At x y := by
  intro x y h
  exact fun_spec E_ok mixed (cs_conv_At_ok S N) (f := 80) (fi := ⟨b_conv_At, 155, Go.Proofs.Tryd.f80.results.toList⟩) (by kernel_rfl) (ls := [l_conv_At_2 N, l_conv_At_1 N, l_conv_At_0 N]) (.cons (by kernel_rfl) (g_conv_At_2_ok S N N) (.cons (by kernel_rfl) (g_conv_At_1_ok S N N) (.cons (by kernel_rfl) (g_conv_At_0_ok S N N) (.nil)))) (by kernel_rfl) (ps := ps_conv_At) (rs := rs_conv_At) (Eq.trans (b := F_conv_At N x.1 x.2.1 x.2.2.1 x.2.2.2.1 x.2.2.2.2.1 x.2.2.2.2.2.1 x.2.2.2.2.2.2.1) (by kernel_rfl) h)

/-! lodge/pool.floor -/

abbrev ps_pool_floor : List Ty := [(.int .i64), (.int .i64)]
abbrev rs_pool_floor : List Slot := [.data (.int .i64)]
abbrev cs_pool_floor (N : Nat) : List CallSpec := []
noncomputable abbrev b_pool_floor : Code := (Go.Proofs.Tryd.f91.body).getD .skip

def F_pool_floor (N : Nat) (a_0 : Int) (b_1 : Int) : Option (Int × Unit) :=
  cond (decide (@Ne Int b_1 (0 : Int)))
    (
    cond (decide (@Ne Int b_1 (0 : Int)))
      (
      cond (decide ((Int.tmod a_0 b_1) < (0 : Int)))
        (
        some ((wi64 ((wi64 (Int.tdiv a_0 b_1)) - (1 : Int))), ()))
        (
        some ((wi64 (Int.tdiv a_0 b_1)), ())))
      (
      none))
    (
    none)

abbrev c_pool_floor (N : Nat) : CallSpec := ⟨91, ps_pool_floor, rs_pool_floor, fun x => F_pool_floor N x.1 x.2.1⟩

theorem cs_pool_floor_ok (S : Nat → Addr) (N : Nat) : CallsOK Go.Proofs.Tryd.prog E S (cs_pool_floor N) :=
  .nil
theorem F_pool_floor_ok (S : Nat → Addr) (N : Nat) : ∀ x y, (c_pool_floor N).g x = some y → FCon Go.Proofs.Tryd.prog E S 91 ps_pool_floor rs_pool_floor x y := by
  intro x y h
  exact fun_spec E_ok mixed (cs_pool_floor_ok S N) (f := 91) (fi := ⟨b_pool_floor, 16, Go.Proofs.Tryd.f91.results.toList⟩) (by kernel_rfl) (ls := []) (.nil) (by kernel_rfl) (ps := ps_pool_floor) (rs := rs_pool_floor) (Eq.trans (b := F_pool_floor N x.1 x.2.1) (by kernel_rfl) h)

/-! lodge/pool.At -/

abbrev ps_pool_At : List Ty := [.bool, (.sl (.int .i64)), (.sl (.int .i64)), (.clo 77 (.ref (.st (.pair (.st (.pair (.sl (.int .i64)) .bool)) (.sl (.int .i64)))))), (.int .i64), (.int .i64)]
abbrev rs_pool_At : List Slot := [.data (.int .i64)]
abbrev cs_pool_At (N : Nat) : List CallSpec := [c_op_reads_1 N, c_pool_floor N]
noncomputable abbrev b_pool_At : Code := (Go.Proofs.Tryd.f81.body).getD .skip

abbrev h_pool_At_1 : List Slot := [.data .bool, .dead, .data (.sl (.int .i64)), .data (.clo 77 (.ref (.st (.pair (.st (.pair (.sl (.int .i64)) .bool)) (.sl (.int .i64)))))), .dead, .dead, .dead, .dead, .dead, .dead, .dead, .dead, .dead, .data (.int .i64), .data (.int .i64), .data (.int .i64), .data (.int .i64), .data (.int .i64), .data (.int .i64), .data (.int .i64), .data (.int .i64), .data (.int .i64), .data (.int .i64), .dead, .dead, .dead, .dead, .dead, .dead, .dead, .dead, .dead, .dead, .dead, .dead, .dead, .dead, .dead, .dead, .dead, .dead, .dead, .dead, .dead, .dead, .dead, .dead, .dead, .dead, .dead, .dead, .dead, .dead, .dead, .dead, .dead, .dead, .dead, .dead, .dead, .dead, .dead, .dead, .dead, .dead, .dead, .dead, .dead, .dead, .dead, .dead, .dead, .dead, .dead, .dead, .dead, .dead, .dead, .dead, .dead, .dead, .dead, .dead, .dead, .dead, .dead, .dead, .dead, .dead, .dead, .dead, .dead, .dead, .dead, .dead, .dead, .dead, .dead, .dead, .dead, .dead, .dead, .dead, .dead, .dead, .dead, .dead, .dead, .dead, .dead, .dead, .dead, .dead]
abbrev e_pool_At_1 : List (AX × List Slot) := [(AX.exit 1, [.data .bool, .dead, .data (.sl (.int .i64)), .data (.clo 77 (.ref (.st (.pair (.st (.pair (.sl (.int .i64)) .bool)) (.sl (.int .i64)))))), .dead, .dead, .dead, .dead, .dead, .dead, .dead, .dead, .dead, .data (.int .i64), .data (.int .i64), .data (.int .i64), .data (.int .i64), .data (.int .i64), .data (.int .i64), .data (.int .i64), .data (.int .i64), .data (.int .i64), .dead, .dead, .dead, .dead, .dead, .dead, .dead, .dead, .dead, .dead, .dead, .dead, .dead, .dead, .dead, .dead, .dead, .dead, .dead, .dead, .dead, .dead, .dead, .dead, .dead, .dead, .dead, .dead, .dead, .dead, .dead, .dead, .dead, .dead, .dead, .dead, .dead, .dead, .dead, .dead, .dead, .dead, .dead, .dead, .dead, .dead, .dead, .dead, .dead, .dead, .dead, .dead, .dead, .dead, .dead, .dead, .dead, .dead, .dead, .dead, .dead, .dead, .dead, .dead, .dead, .dead, .dead, .dead, .dead, .dead, .dead, .dead, .dead, .dead, .dead, .dead, .dead, .dead, .dead, .dead, .dead, .dead, .dead, .dead, .dead, .dead, .dead, .dead, .dead, .dead, .dead])]
def g_pool_At_1 (N : Nat) : Nat → Bool → List Int → ((List Int × Bool) × List Int) → Int → Int → Int → Int → Int → Int → Int → Int → Int → Int → Option (Bool × (List Int × (((List Int × Bool) × List Int) × (Int × (Int × (Int × (Int × (Int × (Int × (Int × (Int × (Int × Unit))))))))))))
  | 0, _, _, _, _, _, _, _, _, _, _, _, _, _ => none
  | n + 1, avg_0, a_2, get_3, size_13, stride_14, c_15, ch_16, x_17, y_18, best_19, sum_20, dy_21, dx_22 =>
    cond (decide (dx_22 = size_13))
      (
      some (avg_0, (a_2, (get_3, (size_13, (stride_14, (c_15, (ch_16, (x_17, (y_18, (best_19, (sum_20, ((wi64 (dy_21 + (1 : Int))), ())))))))))))))
      (
      cond (decide (1 < (List.length a_2)))
        (
        Option.bind (F_op_reads_1 N (wi64 ((wi64 ((wi64 ((wi64 ((wi64 ((wi64 ((wi64 (y_18 * stride_14)) + dy_21)) * (List.getD a_2 1 (0 : Int)))) + (wi64 (x_17 * stride_14)))) + dx_22)) * c_15)) + ch_16)) get_3) fun y2 =>
        (g_pool_At_1 N n avg_0 a_2 get_3 size_13 stride_14 c_15 ch_16 x_17 y_18 (Go.Eng.imax best_19 (y2).1) (wi64 (sum_20 + (y2).1)) dy_21 (wi64 (dx_22 + (1 : Int)))))
        (
        none))

abbrev h_pool_At_0 : List Slot := [.data .bool, .dead, .data (.sl (.int .i64)), .data (.clo 77 (.ref (.st (.pair (.st (.pair (.sl (.int .i64)) .bool)) (.sl (.int .i64)))))), .dead, .dead, .dead, .dead, .dead, .dead, .dead, .dead, .dead, .data (.int .i64), .data (.int .i64), .data (.int .i64), .data (.int .i64), .data (.int .i64), .data (.int .i64), .data (.int .i64), .data (.int .i64), .data (.int .i64), .dead, .dead, .dead, .dead, .dead, .dead, .dead, .dead, .dead, .dead, .dead, .dead, .dead, .dead, .dead, .dead, .dead, .dead, .dead, .dead, .dead, .dead, .dead, .dead, .dead, .dead, .dead, .dead, .dead, .dead, .dead, .dead, .dead, .dead, .dead, .dead, .dead, .dead, .dead, .dead, .dead, .dead, .dead, .dead, .dead, .dead, .dead, .dead, .dead, .dead, .dead, .dead, .dead, .dead, .dead, .dead, .dead, .dead, .dead, .dead, .dead, .dead, .dead, .dead, .dead, .dead, .dead, .dead, .dead, .dead, .dead, .dead, .dead, .dead, .dead, .dead, .dead, .dead, .dead, .dead, .dead, .dead, .dead, .dead, .dead, .dead, .dead, .dead, .dead, .dead, .dead]
abbrev e_pool_At_0 : List (AX × List Slot) := [(AX.exit 0, [.data .bool, .dead, .dead, .dead, .dead, .dead, .dead, .dead, .dead, .dead, .dead, .dead, .dead, .data (.int .i64), .dead, .dead, .dead, .dead, .dead, .data (.int .i64), .data (.int .i64), .dead, .dead, .dead, .dead, .dead, .dead, .dead, .dead, .dead, .dead, .dead, .dead, .dead, .dead, .dead, .dead, .dead, .dead, .dead, .dead, .dead, .dead, .dead, .dead, .dead, .dead, .dead, .dead, .dead, .dead, .dead, .dead, .dead, .dead, .dead, .dead, .dead, .dead, .dead, .dead, .dead, .dead, .dead, .dead, .dead, .dead, .dead, .dead, .dead, .dead, .dead, .dead, .dead, .dead, .dead, .dead, .dead, .dead, .dead, .dead, .dead, .dead, .dead, .dead, .dead, .dead, .dead, .dead, .dead, .dead, .dead, .dead, .dead, .dead, .dead, .dead, .dead, .dead, .dead, .dead, .dead, .dead, .dead, .dead, .dead, .dead, .dead, .dead, .dead, .dead, .dead, .dead])]
def g_pool_At_0 (N : Nat) : Nat → Bool → List Int → ((List Int × Bool) × List Int) → Int → Int → Int → Int → Int → Int → Int → Int → Int → Option (Bool × (Int × (Int × (Int × Unit))))
  | 0, _, _, _, _, _, _, _, _, _, _, _, _ => none
  | n + 1, avg_0, a_2, get_3, size_13, stride_14, c_15, ch_16, x_17, y_18, best_19, sum_20, dy_21 =>
    cond (decide (dy_21 < size_13))
      (
      Option.bind (g_pool_At_1 N N avg_0 a_2 get_3 size_13 stride_14 c_15 ch_16 x_17 y_18 best_19 sum_20 dy_21 (0 : Int)) fun y4 =>
      (g_pool_At_0 N n (y4).1 ((y4).2).1 (((y4).2).2).1 ((((y4).2).2).2).1 (((((y4).2).2).2).2).1 ((((((y4).2).2).2).2).2).1 (((((((y4).2).2).2).2).2).2).1 ((((((((y4).2).2).2).2).2).2).2).1 (((((((((y4).2).2).2).2).2).2).2).2).1 ((((((((((y4).2).2).2).2).2).2).2).2).2).1 (((((((((((y4).2).2).2).2).2).2).2).2).2).2).1 ((((((((((((y4).2).2).2).2).2).2).2).2).2).2).2).1))
      (
      some (avg_0, (size_13, (best_19, (sum_20, ())))))

def F_pool_At (N : Nat) (avg_0 : Bool) (args_1 : List Int) (a_2 : List Int) (get_3 : ((List Int × Bool) × List Int)) (i_4 : Int) (ow_5 : Int) : Option (Int × Unit) :=
  cond (decide (0 < (List.length args_1)))
    (
    cond (decide (1 < (List.length args_1)))
      (
      cond (decide (2 < (List.length a_2)))
        (
        cond (decide (@Ne Int (List.getD a_2 2 (0 : Int)) (0 : Int)))
          (
          cond (decide (@Ne Int (List.getD a_2 2 (0 : Int)) (0 : Int)))
            (
            cond (decide (@Ne Int ow_5 (0 : Int)))
              (
              cond (decide (@Ne Int (List.getD a_2 2 (0 : Int)) (0 : Int)))
                (
                cond (decide (@Ne Int ow_5 (0 : Int)))
                  (
                  cond (decide (1 < (List.length a_2)))
                    (
                    Option.bind (F_op_reads_1 N (wi64 ((wi64 ((wi64 ((wi64 ((wi64 ((wi64 (Int.tdiv (wi64 (Int.tdiv i_4 (List.getD a_2 2 (0 : Int)))) ow_5)) * (List.getD args_1 1 (0 : Int)))) * (List.getD a_2 1 (0 : Int)))) + (wi64 ((Int.tmod (wi64 (Int.tdiv i_4 (List.getD a_2 2 (0 : Int)))) ow_5) * (List.getD args_1 1 (0 : Int)))))) * (List.getD a_2 2 (0 : Int)))) + (Int.tmod i_4 (List.getD a_2 2 (0 : Int))))) get_3) fun y0 =>
                    Option.bind (g_pool_At_0 N N avg_0 a_2 get_3 (List.getD args_1 0 (0 : Int)) (List.getD args_1 1 (0 : Int)) (List.getD a_2 2 (0 : Int)) (Int.tmod i_4 (List.getD a_2 2 (0 : Int))) (Int.tmod (wi64 (Int.tdiv i_4 (List.getD a_2 2 (0 : Int)))) ow_5) (wi64 (Int.tdiv (wi64 (Int.tdiv i_4 (List.getD a_2 2 (0 : Int)))) ow_5)) (y0).1 (0 : Int) (0 : Int)) fun y1 =>
                    cond (y1).1
                      (
                      Option.bind (F_pool_floor N (wi64 ((wi64 ((2 : Int) * ((((y1).2).2).2).1)) + (wi64 (((y1).2).1 * ((y1).2).1)))) (wi64 ((2 : Int) * (wi64 (((y1).2).1 * ((y1).2).1))))) fun y2 =>
                      some y2)
                      (
                      some ((((y1).2).2).1, ())))
                    (
                    none))
                  (
                  none))
                (
                none))
              (
              none))
            (
            none))
          (
          none))
        (
        none))
      (
      none))
    (
    none)

abbrev c_pool_At (N : Nat) : CallSpec := ⟨81, ps_pool_At, rs_pool_At, fun x => F_pool_At N x.1 x.2.1 x.2.2.1 x.2.2.2.1 x.2.2.2.2.1 x.2.2.2.2.2.1⟩
abbrev l_pool_At_1 (N : Nat) : LoopSpec := ⟨1, h_pool_At_1, e_pool_At_1, fun x => g_pool_At_1 N N x.1 x.2.1 x.2.2.1 x.2.2.2.1 x.2.2.2.2.1 x.2.2.2.2.2.1 x.2.2.2.2.2.2.1 x.2.2.2.2.2.2.2.1 x.2.2.2.2.2.2.2.2.1 x.2.2.2.2.2.2.2.2.2.1 x.2.2.2.2.2.2.2.2.2.2.1 x.2.2.2.2.2.2.2.2.2.2.2.1 x.2.2.2.2.2.2.2.2.2.2.2.2.1⟩
abbrev l_pool_At_0 (N : Nat) : LoopSpec := ⟨0, h_pool_At_0, e_pool_At_0, fun x => g_pool_At_0 N N x.1 x.2.1 x.2.2.1 x.2.2.2.1 x.2.2.2.2.1 x.2.2.2.2.2.1 x.2.2.2.2.2.2.1 x.2.2.2.2.2.2.2.1 x.2.2.2.2.2.2.2.2.1 x.2.2.2.2.2.2.2.2.2.1 x.2.2.2.2.2.2.2.2.2.2.1 x.2.2.2.2.2.2.2.2.2.2.2.1⟩

theorem cs_pool_At_ok (S : Nat → Addr) (N : Nat) : CallsOK Go.Proofs.Tryd.prog E S (cs_pool_At N) :=
  .cons (F_op_reads_1_ok S N) (.cons (F_pool_floor_ok S N) (.nil))
noncomputable abbrev b_pool_At_1 : Code := (loopsOf b_pool_At).getD 1 .skip
theorem g_pool_At_1_ok (S : Nat → Addr) (N : Nat) : ∀ n x y, (fun (x : Val (slotsTy h_pool_At_1)) => g_pool_At_1 N n x.1 x.2.1 x.2.2.1 x.2.2.2.1 x.2.2.2.2.1 x.2.2.2.2.2.1 x.2.2.2.2.2.2.1 x.2.2.2.2.2.2.2.1 x.2.2.2.2.2.2.2.2.1 x.2.2.2.2.2.2.2.2.2.1 x.2.2.2.2.2.2.2.2.2.2.1 x.2.2.2.2.2.2.2.2.2.2.2.1 x.2.2.2.2.2.2.2.2.2.2.2.2.1) x = some y → LoopCon Go.Proofs.Tryd.prog E S b_pool_At_1 (encSlots h_pool_At_1 x) (encEx e_pool_At_1 y).1 (encEx e_pool_At_1 y).2 :=
  loop_spec E_ok mixed (cs_pool_At_ok S N) (all := loopsOf b_pool_At) (ls := []) (.nil) (i := 1) (by kernel_rfl) (inner_of (by kernel_rfl)) (head := h_pool_At_1) (ex := e_pool_At_1) (fun n (x : Val (slotsTy h_pool_At_1)) => g_pool_At_1 N n x.1 x.2.1 x.2.2.1 x.2.2.2.1 x.2.2.2.2.1 x.2.2.2.2.2.1 x.2.2.2.2.2.2.1 x.2.2.2.2.2.2.2.1 x.2.2.2.2.2.2.2.2.1 x.2.2.2.2.2.2.2.2.2.1 x.2.2.2.2.2.2.2.2.2.2.1 x.2.2.2.2.2.2.2.2.2.2.2.1 x.2.2.2.2.2.2.2.2.2.2.2.2.1) (fun _ => rfl) (fun n x => by kernel_rfl)
noncomputable abbrev b_pool_At_0 : Code := (loopsOf b_pool_At).getD 0 .skip
theorem g_pool_At_0_ok (S : Nat → Addr) (N : Nat) : ∀ n x y, (fun (x : Val (slotsTy h_pool_At_0)) => g_pool_At_0 N n x.1 x.2.1 x.2.2.1 x.2.2.2.1 x.2.2.2.2.1 x.2.2.2.2.2.1 x.2.2.2.2.2.2.1 x.2.2.2.2.2.2.2.1 x.2.2.2.2.2.2.2.2.1 x.2.2.2.2.2.2.2.2.2.1 x.2.2.2.2.2.2.2.2.2.2.1 x.2.2.2.2.2.2.2.2.2.2.2.1) x = some y → LoopCon Go.Proofs.Tryd.prog E S b_pool_At_0 (encSlots h_pool_At_0 x) (encEx e_pool_At_0 y).1 (encEx e_pool_At_0 y).2 :=
  loop_spec E_ok mixed (cs_pool_At_ok S N) (all := loopsOf b_pool_At) (ls := [l_pool_At_1 N]) (.cons (by kernel_rfl) (g_pool_At_1_ok S N N) (.nil)) (i := 0) (by kernel_rfl) (inner_of (by kernel_rfl)) (head := h_pool_At_0) (ex := e_pool_At_0) (fun n (x : Val (slotsTy h_pool_At_0)) => g_pool_At_0 N n x.1 x.2.1 x.2.2.1 x.2.2.2.1 x.2.2.2.2.1 x.2.2.2.2.2.1 x.2.2.2.2.2.2.1 x.2.2.2.2.2.2.2.1 x.2.2.2.2.2.2.2.2.1 x.2.2.2.2.2.2.2.2.2.1 x.2.2.2.2.2.2.2.2.2.2.1 x.2.2.2.2.2.2.2.2.2.2.2.1) (fun _ => rfl) (fun n x => by kernel_rfl)
theorem F_pool_At_ok (S : Nat → Addr) (N : Nat) : ∀ x y, (c_pool_At N).g x = some y → FCon Go.Proofs.Tryd.prog E S 81 ps_pool_At rs_pool_At x y := by
  intro x y h
  exact fun_spec E_ok mixed (cs_pool_At_ok S N) (f := 81) (fi := ⟨b_pool_At, 113, Go.Proofs.Tryd.f81.results.toList⟩) (by kernel_rfl) (ls := [l_pool_At_1 N, l_pool_At_0 N]) (.cons (by kernel_rfl) (g_pool_At_1_ok S N N) (.cons (by kernel_rfl) (g_pool_At_0_ok S N N) (.nil))) (by kernel_rfl) (ps := ps_pool_At) (rs := rs_pool_At) (Eq.trans (b := F_pool_At N x.1 x.2.1 x.2.2.1 x.2.2.2.1 x.2.2.2.2.1 x.2.2.2.2.2.1) (by kernel_rfl) h)

/-! lodge/soft.softmax$1 -/

abbrev ps_soft_softmax_c1 : List Ty := [(.int .i64), (.ref (.clo 77 (.ref (.st (.pair (.st (.pair (.sl (.int .i64)) .bool)) (.sl (.int .i64))))))), (.ref (.int .i64))]
abbrev rs_soft_softmax_c1 : List Slot := [.data (.int .i64)]
abbrev cs_soft_softmax_c1 (N : Nat) : List CallSpec := [c_op_reads_1 N]
noncomputable abbrev b_soft_softmax_c1 : Code := (Go.Proofs.Tryd.f97.body).getD .skip

def F_soft_softmax_c1 (N : Nat) (x_0 : Int) (t_1 : ((List Int × Bool) × List Int)) (t_2 : Int) : Option (Int × Unit) :=
  Option.bind (F_op_reads_1 N (wi64 (t_2 - x_0)) t_1) fun y0 =>
  some ((Go.Eng.imax (y0).1 (0 : Int)), ())

abbrev c_soft_softmax_c1 (N : Nat) : CallSpec := ⟨97, ps_soft_softmax_c1, rs_soft_softmax_c1, fun x => F_soft_softmax_c1 N x.1 x.2.1 x.2.2.1⟩

theorem cs_soft_softmax_c1_ok (S : Nat → Addr) (N : Nat) : CallsOK Go.Proofs.Tryd.prog E S (cs_soft_softmax_c1 N) :=
  .cons (F_op_reads_1_ok S N) (.nil)
theorem F_soft_softmax_c1_ok (S : Nat → Addr) (N : Nat) : ∀ x y, (c_soft_softmax_c1 N).g x = some y → FCon Go.Proofs.Tryd.prog E S 97 ps_soft_softmax_c1 rs_soft_softmax_c1 x y := by
  intro x y h
  exact fun_spec E_ok mixed (cs_soft_softmax_c1_ok S N) (f := 97) (fi := ⟨b_soft_softmax_c1, 11, Go.Proofs.Tryd.f97.results.toList⟩) (by kernel_rfl) (ls := []) (.nil) (by kernel_rfl) (ps := ps_soft_softmax_c1) (rs := rs_soft_softmax_c1) (Eq.trans (b := F_soft_softmax_c1 N x.1 x.2.1 x.2.2.1) (by kernel_rfl) h)

/-! lodge/soft.softmax -/

abbrev ps_soft_softmax : List Ty := [(.clo 77 (.ref (.st (.pair (.st (.pair (.sl (.int .i64)) .bool)) (.sl (.int .i64)))))), (.clo 77 (.ref (.st (.pair (.st (.pair (.sl (.int .i64)) .bool)) (.sl (.int .i64)))))), (.int .i64), (.int .i64)]
abbrev rs_soft_softmax : List Slot := [.data (.int .i64)]
abbrev cs_soft_softmax (N : Nat) : List CallSpec := [c_op_reads_1 N, c_soft_softmax_c1 N]
noncomputable abbrev b_soft_softmax : Code := (Go.Proofs.Tryd.f92.body).getD .skip

abbrev h_soft_softmax_0 : List Slot := [.data (.clo 77 (.ref (.st (.pair (.st (.pair (.sl (.int .i64)) .bool)) (.sl (.int .i64)))))), .dead, .data (.int .i64), .data (.int .i64), .dead, .box [.d (.clo 77 (.ref (.st (.pair (.st (.pair (.sl (.int .i64)) .bool)) (.sl (.int .i64))))))], .dead, .dead, .dead, .data (.int .i64), .box [.d (.int .i64)], .dead, .dead, .dead, .dead, .dead, .dead, .dead, .dead, .dead, .dead, .dead, .dead, .data (.int .i64), .data (.int .i64), .dead, .dead, .dead, .dead, .dead, .dead, .dead, .dead, .dead, .dead, .dead, .dead, .dead, .dead, .dead, .dead, .dead, .dead, .dead, .dead, .dead, .dead, .dead, .dead, .dead, .dead, .dead, .dead, .dead, .dead, .dead, .dead, .dead, .dead, .dead, .dead, .dead, .dead, .dead]
abbrev e_soft_softmax_0 : List (AX × List Slot) := [(AX.exit 0, [.data (.clo 77 (.ref (.st (.pair (.st (.pair (.sl (.int .i64)) .bool)) (.sl (.int .i64)))))), .dead, .data (.int .i64), .data (.int .i64), .dead, .box [.d (.clo 77 (.ref (.st (.pair (.st (.pair (.sl (.int .i64)) .bool)) (.sl (.int .i64))))))], .dead, .dead, .dead, .data (.int .i64), .box [.d (.int .i64)], .dead, .dead, .dead, .dead, .dead, .dead, .dead, .dead, .dead, .dead, .dead, .dead, .dead, .dead, .dead, .dead, .dead, .dead, .dead, .dead, .dead, .dead, .dead, .dead, .dead, .dead, .dead, .dead, .dead, .dead, .dead, .dead, .dead, .dead, .dead, .dead, .dead, .dead, .dead, .dead, .dead, .dead, .dead, .dead, .dead, .dead, .dead, .dead, .dead, .dead, .dead, .dead, .dead])]
def g_soft_softmax_0 (N : Nat) : Nat → ((List Int × Bool) × List Int) → Int → Int → (((List Int × Bool) × List Int) × Unit) → Int → (Int × Unit) → Int → Int → Option (((List Int × Bool) × List Int) × (Int × (Int × ((((List Int × Bool) × List Int) × Unit) × (Int × ((Int × Unit) × Unit))))))
  | 0, _, _, _, _, _, _, _, _ => none
  | n + 1, a_0, i_2, n_3, t_5, row_9, m_10, t_23, t_24 =>
    cond (decide (t_24 < t_23))
      (
      Option.bind (F_op_reads_1 N (wi64 (row_9 + t_24)) a_0) fun y2 =>
      (g_soft_softmax_0 N n a_0 i_2 n_3 t_5 row_9 ((Go.Eng.imax (m_10).1 (y2).1), ()) t_23 (wi64 (t_24 + (1 : Int)))))
      (
      some (a_0, (i_2, (n_3, (t_5, (row_9, (m_10, ())))))))

abbrev h_soft_softmax_1 : List Slot := [.data (.clo 77 (.ref (.st (.pair (.st (.pair (.sl (.int .i64)) .bool)) (.sl (.int .i64)))))), .dead, .data (.int .i64), .dead, .dead, .dead, .dead, .dead, .dead, .data (.int .i64), .dead, .dead, .data (.clo 97 (.pair (.ref (.clo 77 (.ref (.st (.pair (.st (.pair (.sl (.int .i64)) .bool)) (.sl (.int .i64))))))) (.ref (.int .i64)))), .data (.int .i64), .dead, .dead, .dead, .dead, .dead, .dead, .dead, .dead, .dead, .dead, .dead, .dead, .dead, .dead, .dead, .dead, .dead, .dead, .dead, .dead, .dead, .dead, .data (.int .i64), .data (.int .i64), .dead, .dead, .dead, .dead, .dead, .dead, .dead, .dead, .dead, .dead, .dead, .dead, .dead, .dead, .dead, .dead, .dead, .dead, .dead, .dead, .dead, .dead, .dead, .dead, .dead, .dead]
abbrev e_soft_softmax_1 : List (AX × List Slot) := [(AX.exit 2, [.data (.clo 77 (.ref (.st (.pair (.st (.pair (.sl (.int .i64)) .bool)) (.sl (.int .i64)))))), .dead, .data (.int .i64), .dead, .dead, .dead, .dead, .dead, .dead, .dead, .dead, .dead, .data (.clo 97 (.pair (.ref (.clo 77 (.ref (.st (.pair (.st (.pair (.sl (.int .i64)) .bool)) (.sl (.int .i64))))))) (.ref (.int .i64)))), .data (.int .i64), .dead, .dead, .dead, .dead, .dead, .dead, .dead, .dead, .dead, .dead, .dead, .dead, .dead, .dead, .dead, .dead, .dead, .dead, .dead, .dead, .dead, .dead, .dead, .dead, .dead, .dead, .dead, .dead, .dead, .dead, .dead, .dead, .dead, .dead, .dead, .dead, .dead, .dead, .dead, .dead, .dead, .dead, .dead, .dead, .dead, .dead, .dead, .dead, .dead, .dead])]
def g_soft_softmax_1 (N : Nat) : Nat → ((List Int × Bool) × List Int) → Int → Int → (((List Int × Bool) × List Int) × Int) → Int → Int → Int → Option (((List Int × Bool) × List Int) × (Int × ((((List Int × Bool) × List Int) × Int) × (Int × Unit))))
  | 0, _, _, _, _, _, _, _ => none
  | n + 1, a_0, i_2, row_9, w_12, s_13, t_36, t_37 =>
    cond (decide (t_37 < t_36))
      (
      Option.bind (F_op_reads_1 N (wi64 (row_9 + t_37)) a_0) fun y6 =>
      Option.bind (F_soft_softmax_c1 N (y6).1 (w_12).1 (w_12).2) fun y7 =>
      (g_soft_softmax_1 N n a_0 i_2 row_9 w_12 (wi64 (s_13 + (y7).1)) t_36 (wi64 (t_37 + (1 : Int)))))
      (
      some (a_0, (i_2, (w_12, (s_13, ())))))

def F_soft_softmax (N : Nat) (a_0 : ((List Int × Bool) × List Int)) (t_1 : ((List Int × Bool) × List Int)) (i_2 : Int) (n_3 : Int) : Option (Int × Unit) :=
  cond (decide (@Ne Int n_3 (0 : Int)))
    (
    Option.bind (F_op_reads_1 N (wi64 ((wi64 (Int.tdiv i_2 n_3)) * n_3)) a_0) fun y0 =>
    Option.bind (g_soft_softmax_0 N N a_0 i_2 n_3 (t_1, ()) (wi64 ((wi64 (Int.tdiv i_2 n_3)) * n_3)) y0 n_3 (0 : Int)) fun y1 =>
    Option.bind (g_soft_softmax_1 N N (y1).1 ((y1).2).1 (((((y1).2).2).2).2).1 ((((((y1).2).2).2).1).1, (((((((y1).2).2).2).2).2).1).1) (0 : Int) (((y1).2).2).1 (0 : Int)) fun y2 =>
    cond (decide (((((y2).2).2).2).1 = (0 : Int)))
      (
      some ((-(128 : Int)), ()))
      (
      Option.bind (F_op_reads_1 N ((y2).2).1 (y2).1) fun y3 =>
      Option.bind (F_soft_softmax_c1 N (y3).1 ((((y2).2).2).1).1 ((((y2).2).2).1).2) fun y4 =>
      cond (decide (@Ne Int ((((y2).2).2).2).1 (0 : Int)))
        (
        some ((wi64 ((wi64 (Int.tdiv (wi64 ((wi64 ((255 : Int) * (y4).1)) + (wi64 (Int.tdiv ((((y2).2).2).2).1 (2 : Int))))) ((((y2).2).2).2).1)) + (-(128 : Int)))), ()))
        (
        none)))
    (
    none)

abbrev c_soft_softmax (N : Nat) : CallSpec := ⟨92, ps_soft_softmax, rs_soft_softmax, fun x => F_soft_softmax N x.1 x.2.1 x.2.2.1 x.2.2.2.1⟩
abbrev l_soft_softmax_1 (N : Nat) : LoopSpec := ⟨1, h_soft_softmax_1, e_soft_softmax_1, fun x => g_soft_softmax_1 N N x.1 x.2.1 x.2.2.1 x.2.2.2.1 x.2.2.2.2.1 x.2.2.2.2.2.1 x.2.2.2.2.2.2.1⟩
abbrev l_soft_softmax_0 (N : Nat) : LoopSpec := ⟨0, h_soft_softmax_0, e_soft_softmax_0, fun x => g_soft_softmax_0 N N x.1 x.2.1 x.2.2.1 x.2.2.2.1 x.2.2.2.2.1 x.2.2.2.2.2.1 x.2.2.2.2.2.2.1 x.2.2.2.2.2.2.2.1⟩

theorem cs_soft_softmax_ok (S : Nat → Addr) (N : Nat) : CallsOK Go.Proofs.Tryd.prog E S (cs_soft_softmax N) :=
  .cons (F_op_reads_1_ok S N) (.cons (F_soft_softmax_c1_ok S N) (.nil))
noncomputable abbrev b_soft_softmax_1 : Code := (loopsOf b_soft_softmax).getD 1 .skip
theorem g_soft_softmax_1_ok (S : Nat → Addr) (N : Nat) : ∀ n x y, (fun (x : Val (slotsTy h_soft_softmax_1)) => g_soft_softmax_1 N n x.1 x.2.1 x.2.2.1 x.2.2.2.1 x.2.2.2.2.1 x.2.2.2.2.2.1 x.2.2.2.2.2.2.1) x = some y → LoopCon Go.Proofs.Tryd.prog E S b_soft_softmax_1 (encSlots h_soft_softmax_1 x) (encEx e_soft_softmax_1 y).1 (encEx e_soft_softmax_1 y).2 :=
  loop_spec E_ok mixed (cs_soft_softmax_ok S N) (all := loopsOf b_soft_softmax) (ls := []) (.nil) (i := 1) (by kernel_rfl) (inner_of (by kernel_rfl)) (head := h_soft_softmax_1) (ex := e_soft_softmax_1) (fun n (x : Val (slotsTy h_soft_softmax_1)) => g_soft_softmax_1 N n x.1 x.2.1 x.2.2.1 x.2.2.2.1 x.2.2.2.2.1 x.2.2.2.2.2.1 x.2.2.2.2.2.2.1) (fun _ => rfl) (fun n x => by kernel_rfl)
noncomputable abbrev b_soft_softmax_0 : Code := (loopsOf b_soft_softmax).getD 0 .skip
theorem g_soft_softmax_0_ok (S : Nat → Addr) (N : Nat) : ∀ n x y, (fun (x : Val (slotsTy h_soft_softmax_0)) => g_soft_softmax_0 N n x.1 x.2.1 x.2.2.1 x.2.2.2.1 x.2.2.2.2.1 x.2.2.2.2.2.1 x.2.2.2.2.2.2.1 x.2.2.2.2.2.2.2.1) x = some y → LoopCon Go.Proofs.Tryd.prog E S b_soft_softmax_0 (encSlots h_soft_softmax_0 x) (encEx e_soft_softmax_0 y).1 (encEx e_soft_softmax_0 y).2 :=
  loop_spec E_ok mixed (cs_soft_softmax_ok S N) (all := loopsOf b_soft_softmax) (ls := []) (.nil) (i := 0) (by kernel_rfl) (inner_of (by kernel_rfl)) (head := h_soft_softmax_0) (ex := e_soft_softmax_0) (fun n (x : Val (slotsTy h_soft_softmax_0)) => g_soft_softmax_0 N n x.1 x.2.1 x.2.2.1 x.2.2.2.1 x.2.2.2.2.1 x.2.2.2.2.2.1 x.2.2.2.2.2.2.1 x.2.2.2.2.2.2.2.1) (fun _ => rfl) (fun n x => by kernel_rfl)
theorem F_soft_softmax_ok (S : Nat → Addr) (N : Nat) : ∀ x y, (c_soft_softmax N).g x = some y → FCon Go.Proofs.Tryd.prog E S 92 ps_soft_softmax rs_soft_softmax x y := by
  intro x y h
  exact fun_spec E_ok mixed (cs_soft_softmax_ok S N) (f := 92) (fi := ⟨b_soft_softmax, 64, Go.Proofs.Tryd.f92.results.toList⟩) (by kernel_rfl) (ls := [l_soft_softmax_1 N, l_soft_softmax_0 N]) (.cons (by kernel_rfl) (g_soft_softmax_1_ok S N N) (.cons (by kernel_rfl) (g_soft_softmax_0_ok S N N) (.nil))) (by kernel_rfl) (ps := ps_soft_softmax) (rs := rs_soft_softmax) (Eq.trans (b := F_soft_softmax N x.1 x.2.1 x.2.2.1 x.2.2.2.1) (by kernel_rfl) h)

/-! lodge/soft.At -/

abbrev ps_soft_At : List Ty := [(.int .i64), (.int .i64), (.sl (.st (.pair (.sl (.int .i64)) .bool))), (.sl (.clo 77 (.ref (.st (.pair (.st (.pair (.sl (.int .i64)) .bool)) (.sl (.int .i64)))))))]
abbrev rs_soft_At : List Slot := [.data (.int .i64)]
abbrev cs_soft_At (N : Nat) : List CallSpec := [c_op_reads_1 N, c_tens_Wide N, c_soft_softmax N]
noncomputable abbrev b_soft_At : Code := (Go.Proofs.Tryd.f82.body).getD .skip

abbrev h_soft_At_1 : List Slot := [.dead, .data (.int .i64), .dead, .dead, .dead, .dead, .dead, .dead, .dead, .dead, .data (.int .i64), .data (.clo 77 (.ref (.st (.pair (.st (.pair (.sl (.int .i64)) .bool)) (.sl (.int .i64)))))), .dead, .dead, .data (.int .i64), .dead, .dead, .dead, .dead, .dead, .dead, .dead, .dead, .dead, .dead, .dead, .dead, .dead, .dead, .dead, .dead, .dead, .dead, .dead, .dead, .dead, .dead, .dead, .dead, .dead, .dead, .dead, .dead, .dead, .dead, .dead, .dead, .dead, .dead, .dead, .dead, .dead, .dead, .dead, .dead, .dead, .dead, .dead, .dead, .dead, .dead, .dead, .dead, .dead, .dead, .dead, .data (.int .i64), .data (.int .i64), .dead, .dead, .dead, .dead, .dead, .dead, .dead, .dead, .dead, .dead, .dead, .dead, .dead, .dead, .dead, .dead, .dead, .dead, .dead, .dead, .dead, .dead, .dead, .dead, .dead, .dead, .dead, .dead, .dead, .dead, .dead, .dead, .dead, .dead, .dead, .dead]
abbrev e_soft_At_1 : List (AX × List Slot) := [(AX.exit 3, [.dead, .dead, .dead, .dead, .dead, .dead, .dead, .dead, .dead, .dead, .dead, .dead, .dead, .dead, .data (.int .i64), .dead, .dead, .dead, .dead, .dead, .dead, .dead, .dead, .dead, .dead, .dead, .dead, .dead, .dead, .dead, .dead, .dead, .dead, .dead, .dead, .dead, .dead, .dead, .dead, .dead, .dead, .dead, .dead, .dead, .dead, .dead, .dead, .dead, .dead, .dead, .dead, .dead, .dead, .dead, .dead, .dead, .dead, .dead, .dead, .dead, .dead, .dead, .dead, .dead, .dead, .dead, .dead, .dead, .dead, .dead, .dead, .dead, .dead, .dead, .dead, .dead, .dead, .dead, .dead, .dead, .dead, .dead, .dead, .dead, .dead, .dead, .dead, .dead, .dead, .dead, .dead, .dead, .dead, .dead, .dead, .dead, .dead, .dead, .dead, .dead, .dead, .dead, .dead, .dead])]
def g_soft_At_1 (N : Nat) : Nat → Int → Int → ((List Int × Bool) × List Int) → Int → Int → Int → Option (Int × Unit)
  | 0, _, _, _, _, _, _ => none
  | n + 1, i_1, n_10, get_11, s_14, t_66, t_67 =>
    cond (decide (t_67 < t_66))
      (
      Option.bind (F_op_reads_1 N (wi64 ((wi64 (i_1 * n_10)) + t_67)) get_11) fun y3 =>
      (g_soft_At_1 N n i_1 n_10 get_11 (wi64 (s_14 + (y3).1)) t_66 (wi64 (t_67 + (1 : Int)))))
      (
      some (s_14, ()))

abbrev h_soft_At_0 : List Slot := [.dead, .data (.int .i64), .dead, .dead, .dead, .dead, .dead, .dead, .dead, .dead, .data (.int .i64), .data (.clo 77 (.ref (.st (.pair (.st (.pair (.sl (.int .i64)) .bool)) (.sl (.int .i64)))))), .data (.int .i64), .dead, .dead, .dead, .dead, .dead, .dead, .dead, .dead, .dead, .dead, .dead, .dead, .dead, .dead, .dead, .dead, .dead, .dead, .dead, .dead, .dead, .dead, .dead, .dead, .dead, .dead, .dead, .dead, .dead, .data (.int .i64), .data (.int .i64), .dead, .dead, .dead, .dead, .dead, .dead, .dead, .dead, .dead, .dead, .dead, .dead, .dead, .dead, .dead, .dead, .dead, .dead, .dead, .dead, .dead, .dead, .dead, .dead, .dead, .dead, .dead, .dead, .dead, .dead, .dead, .dead, .dead, .dead, .dead, .dead, .dead, .dead, .dead, .dead, .dead, .dead, .dead, .dead, .dead, .dead, .dead, .dead, .dead, .dead, .dead, .dead, .dead, .dead, .dead, .dead, .dead, .dead, .dead, .dead]
abbrev e_soft_At_0 : List (AX × List Slot) := [(AX.exit 1, [.dead, .dead, .dead, .dead, .dead, .dead, .dead, .dead, .dead, .dead, .dead, .dead, .data (.int .i64), .dead, .dead, .dead, .dead, .dead, .dead, .dead, .dead, .dead, .dead, .dead, .dead, .dead, .dead, .dead, .dead, .dead, .dead, .dead, .dead, .dead, .dead, .dead, .dead, .dead, .dead, .dead, .dead, .dead, .dead, .dead, .dead, .dead, .dead, .dead, .dead, .dead, .dead, .dead, .dead, .dead, .dead, .dead, .dead, .dead, .dead, .dead, .dead, .dead, .dead, .dead, .dead, .dead, .dead, .dead, .dead, .dead, .dead, .dead, .dead, .dead, .dead, .dead, .dead, .dead, .dead, .dead, .dead, .dead, .dead, .dead, .dead, .dead, .dead, .dead, .dead, .dead, .dead, .dead, .dead, .dead, .dead, .dead, .dead, .dead, .dead, .dead, .dead, .dead, .dead, .dead])]
def g_soft_At_0 (N : Nat) : Nat → Int → Int → ((List Int × Bool) × List Int) → Int → Int → Int → Option (Int × Unit)
  | 0, _, _, _, _, _, _ => none
  | n + 1, i_1, n_10, get_11, best_12, t_42, t_43 =>
    cond (decide (t_43 < t_42))
      (
      Option.bind (F_op_reads_1 N (wi64 ((wi64 (i_1 * n_10)) + t_43)) get_11) fun y8 =>
      Option.bind (F_op_reads_1 N (wi64 ((wi64 (i_1 * n_10)) + best_12)) get_11) fun y9 =>
      cond (decide ((y9).1 < (y8).1))
        (
        (g_soft_At_0 N n i_1 n_10 get_11 t_43 t_42 (wi64 (t_43 + (1 : Int)))))
        (
        (g_soft_At_0 N n i_1 n_10 get_11 best_12 t_42 (wi64 (t_43 + (1 : Int))))))
      (
      some (best_12, ()))

def F_soft_At (N : Nat) (op_0 : Int) (i_1 : Int) (descs_2 : List ((List Int × Bool))) (ins_3 : List ((List Int × Bool) × List Int)) : Option (Int × Unit) :=
  cond (decide (0 < (List.length descs_2)))
    (
    cond (decide ((0 : Int) ≤ (wi64 ((Nat.cast (List.length ((List.getD descs_2 0 (([] : List Int), false))).1) : Int) - (1 : Int)))))
      (
      cond (decide ((Int.toNat (wi64 ((Nat.cast (List.length ((List.getD descs_2 0 (([] : List Int), false))).1) : Int) - (1 : Int)))) < (List.length ((List.getD descs_2 0 (([] : List Int), false))).1)))
        (
        cond (decide (0 < (List.length ins_3)))
          (
          cond (decide (op_0 = (16 : Int)))
            (
            cond (decide (1 < (List.length ins_3)))
              (
              Option.bind (F_soft_softmax N (List.getD ins_3 0 ((([] : List Int), false), ([] : List Int))) (List.getD ins_3 1 ((([] : List Int), false), ([] : List Int))) i_1 (List.getD ((List.getD descs_2 0 (([] : List Int), false))).1 (Int.toNat (wi64 ((Nat.cast (List.length ((List.getD descs_2 0 (([] : List Int), false))).1) : Int) - (1 : Int)))) (0 : Int))) fun y0 =>
              some y0)
              (
              none))
            (
            cond (decide (op_0 = (19 : Int)))
              (
              Option.bind (g_soft_At_0 N N i_1 (List.getD ((List.getD descs_2 0 (([] : List Int), false))).1 (Int.toNat (wi64 ((Nat.cast (List.length ((List.getD descs_2 0 (([] : List Int), false))).1) : Int) - (1 : Int)))) (0 : Int)) (List.getD ins_3 0 ((([] : List Int), false), ([] : List Int))) (0 : Int) (List.getD ((List.getD descs_2 0 (([] : List Int), false))).1 (Int.toNat (wi64 ((Nat.cast (List.length ((List.getD descs_2 0 (([] : List Int), false))).1) : Int) - (1 : Int)))) (0 : Int)) (0 : Int)) fun y1 =>
              some y1)
              (
              cond (decide (op_0 = (20 : Int)))
                (
                Option.bind (g_soft_At_1 N N i_1 (List.getD ((List.getD descs_2 0 (([] : List Int), false))).1 (Int.toNat (wi64 ((Nat.cast (List.length ((List.getD descs_2 0 (([] : List Int), false))).1) : Int) - (1 : Int)))) (0 : Int)) (List.getD ins_3 0 ((([] : List Int), false), ([] : List Int))) (0 : Int) (List.getD ((List.getD descs_2 0 (([] : List Int), false))).1 (Int.toNat (wi64 ((Nat.cast (List.length ((List.getD descs_2 0 (([] : List Int), false))).1) : Int) - (1 : Int)))) (0 : Int)) (0 : Int)) fun y2 =>
                Option.bind (F_tens_Wide N (y2).1) fun y3 =>
                some y3)
                (
                cond (decide (1 < (List.length ins_3)))
                  (
                  cond (decide (@Ne Int (List.getD ((List.getD descs_2 0 (([] : List Int), false))).1 (Int.toNat (wi64 ((Nat.cast (List.length ((List.getD descs_2 0 (([] : List Int), false))).1) : Int) - (1 : Int)))) (0 : Int)) (0 : Int)))
                    (
                    Option.bind (F_op_reads_1 N (wi64 (Int.tdiv i_1 (List.getD ((List.getD descs_2 0 (([] : List Int), false))).1 (Int.toNat (wi64 ((Nat.cast (List.length ((List.getD descs_2 0 (([] : List Int), false))).1) : Int) - (1 : Int)))) (0 : Int)))) (List.getD ins_3 1 ((([] : List Int), false), ([] : List Int)))) fun y4 =>
                    cond (decide (0 < (List.length ((List.getD descs_2 0 (([] : List Int), false))).1)))
                      (
                      cond (decide (@Ne Int (List.getD ((List.getD descs_2 0 (([] : List Int), false))).1 (Int.toNat (wi64 ((Nat.cast (List.length ((List.getD descs_2 0 (([] : List Int), false))).1) : Int) - (1 : Int)))) (0 : Int)) (0 : Int)))
                        (
                        Option.bind (F_op_reads_1 N (wi64 ((wi64 ((Go.Eng.imax (0 : Int) (Go.Eng.imin (y4).1 (wi64 ((List.getD ((List.getD descs_2 0 (([] : List Int), false))).1 0 (0 : Int)) - (1 : Int))))) * (List.getD ((List.getD descs_2 0 (([] : List Int), false))).1 (Int.toNat (wi64 ((Nat.cast (List.length ((List.getD descs_2 0 (([] : List Int), false))).1) : Int) - (1 : Int)))) (0 : Int)))) + (Int.tmod i_1 (List.getD ((List.getD descs_2 0 (([] : List Int), false))).1 (Int.toNat (wi64 ((Nat.cast (List.length ((List.getD descs_2 0 (([] : List Int), false))).1) : Int) - (1 : Int)))) (0 : Int))))) (List.getD ins_3 0 ((([] : List Int), false), ([] : List Int)))) fun y5 =>
                        some y5)
                        (
                        none))
                      (
                      none))
                    (
                    none))
                  (
                  none)))))
          (
          none))
        (
        none))
      (
      none))
    (
    none)

abbrev c_soft_At (N : Nat) : CallSpec := ⟨82, ps_soft_At, rs_soft_At, fun x => F_soft_At N x.1 x.2.1 x.2.2.1 x.2.2.2.1⟩
abbrev l_soft_At_1 (N : Nat) : LoopSpec := ⟨1, h_soft_At_1, e_soft_At_1, fun x => g_soft_At_1 N N x.1 x.2.1 x.2.2.1 x.2.2.2.1 x.2.2.2.2.1 x.2.2.2.2.2.1⟩
abbrev l_soft_At_0 (N : Nat) : LoopSpec := ⟨0, h_soft_At_0, e_soft_At_0, fun x => g_soft_At_0 N N x.1 x.2.1 x.2.2.1 x.2.2.2.1 x.2.2.2.2.1 x.2.2.2.2.2.1⟩

theorem cs_soft_At_ok (S : Nat → Addr) (N : Nat) : CallsOK Go.Proofs.Tryd.prog E S (cs_soft_At N) :=
  .cons (F_op_reads_1_ok S N) (.cons (F_tens_Wide_ok S N) (.cons (F_soft_softmax_ok S N) (.nil)))
noncomputable abbrev b_soft_At_1 : Code := (loopsOf b_soft_At).getD 1 .skip
theorem g_soft_At_1_ok (S : Nat → Addr) (N : Nat) : ∀ n x y, (fun (x : Val (slotsTy h_soft_At_1)) => g_soft_At_1 N n x.1 x.2.1 x.2.2.1 x.2.2.2.1 x.2.2.2.2.1 x.2.2.2.2.2.1) x = some y → LoopCon Go.Proofs.Tryd.prog E S b_soft_At_1 (encSlots h_soft_At_1 x) (encEx e_soft_At_1 y).1 (encEx e_soft_At_1 y).2 :=
  loop_spec E_ok mixed (cs_soft_At_ok S N) (all := loopsOf b_soft_At) (ls := []) (.nil) (i := 1) (by kernel_rfl) (inner_of (by kernel_rfl)) (head := h_soft_At_1) (ex := e_soft_At_1) (fun n (x : Val (slotsTy h_soft_At_1)) => g_soft_At_1 N n x.1 x.2.1 x.2.2.1 x.2.2.2.1 x.2.2.2.2.1 x.2.2.2.2.2.1) (fun _ => rfl) (fun n x => by kernel_rfl)
noncomputable abbrev b_soft_At_0 : Code := (loopsOf b_soft_At).getD 0 .skip
theorem g_soft_At_0_ok (S : Nat → Addr) (N : Nat) : ∀ n x y, (fun (x : Val (slotsTy h_soft_At_0)) => g_soft_At_0 N n x.1 x.2.1 x.2.2.1 x.2.2.2.1 x.2.2.2.2.1 x.2.2.2.2.2.1) x = some y → LoopCon Go.Proofs.Tryd.prog E S b_soft_At_0 (encSlots h_soft_At_0 x) (encEx e_soft_At_0 y).1 (encEx e_soft_At_0 y).2 :=
  loop_spec E_ok mixed (cs_soft_At_ok S N) (all := loopsOf b_soft_At) (ls := []) (.nil) (i := 0) (by kernel_rfl) (inner_of (by kernel_rfl)) (head := h_soft_At_0) (ex := e_soft_At_0) (fun n (x : Val (slotsTy h_soft_At_0)) => g_soft_At_0 N n x.1 x.2.1 x.2.2.1 x.2.2.2.1 x.2.2.2.2.1 x.2.2.2.2.2.1) (fun _ => rfl) (fun n x => by kernel_rfl)
theorem F_soft_At_ok (S : Nat → Addr) (N : Nat) : ∀ x y, (c_soft_At N).g x = some y → FCon Go.Proofs.Tryd.prog E S 82 ps_soft_At rs_soft_At x y := by
  intro x y h
  exact fun_spec E_ok mixed (cs_soft_At_ok S N) (f := 82) (fi := ⟨b_soft_At, 104, Go.Proofs.Tryd.f82.results.toList⟩) (by kernel_rfl) (ls := [l_soft_At_1 N, l_soft_At_0 N]) (.cons (by kernel_rfl) (g_soft_At_1_ok S N N) (.cons (by kernel_rfl) (g_soft_At_0_ok S N N) (.nil))) (by kernel_rfl) (ps := ps_soft_At) (rs := rs_soft_At) (Eq.trans (b := F_soft_At N x.1 x.2.1 x.2.2.1 x.2.2.2.1) (by kernel_rfl) h)

/-! lodge/elem.kind -/

abbrev ps_elem_kind : List Ty := [(.int .i64), .bool]
abbrev rs_elem_kind : List Slot := [.data (.int .i64)]
abbrev cs_elem_kind (N : Nat) : List CallSpec := [c_tens_Narrow N, c_tens_Wide N]
noncomputable abbrev b_elem_kind : Code := (Go.Proofs.Tryd.f93.body).getD .skip

def F_elem_kind (N : Nat) (n_0 : Int) (wide_1 : Bool) : Option (Int × Unit) :=
  cond wide_1
    (
    Option.bind (F_tens_Wide N n_0) fun y0 =>
    some y0)
    (
    Option.bind (F_tens_Narrow N n_0) fun y1 =>
    some y1)

abbrev c_elem_kind (N : Nat) : CallSpec := ⟨93, ps_elem_kind, rs_elem_kind, fun x => F_elem_kind N x.1 x.2.1⟩

theorem cs_elem_kind_ok (S : Nat → Addr) (N : Nat) : CallsOK Go.Proofs.Tryd.prog E S (cs_elem_kind N) :=
  .cons (F_tens_Narrow_ok S N) (.cons (F_tens_Wide_ok S N) (.nil))
theorem F_elem_kind_ok (S : Nat → Addr) (N : Nat) : ∀ x y, (c_elem_kind N).g x = some y → FCon Go.Proofs.Tryd.prog E S 93 ps_elem_kind rs_elem_kind x y := by
  intro x y h
  exact fun_spec E_ok mixed (cs_elem_kind_ok S N) (f := 93) (fi := ⟨b_elem_kind, 10, Go.Proofs.Tryd.f93.results.toList⟩) (by kernel_rfl) (ls := []) (.nil) (by kernel_rfl) (ps := ps_elem_kind) (rs := rs_elem_kind) (Eq.trans (b := F_elem_kind N x.1 x.2.1) (by kernel_rfl) h)

/-! lodge/quant.cut -/

abbrev ps_quant_cut : List Ty := [(.int .i64), (.int .i64), (.int .i64)]
abbrev rs_quant_cut : List Slot := [.data (.int .i64)]
abbrev cs_quant_cut (N : Nat) : List CallSpec := []
noncomputable abbrev b_quant_cut : Code := (Go.Proofs.Tryd.f98.body).getD .skip

def F_quant_cut (N : Nat) (n_0 : Int) (from_1 : Int) (to_2 : Int) : Option (Int × Unit) :=
  some ((Go.Eng.imax from_1 (Go.Eng.imin n_0 to_2)), ())

abbrev c_quant_cut (N : Nat) : CallSpec := ⟨98, ps_quant_cut, rs_quant_cut, fun x => F_quant_cut N x.1 x.2.1 x.2.2.1⟩

theorem cs_quant_cut_ok (S : Nat → Addr) (N : Nat) : CallsOK Go.Proofs.Tryd.prog E S (cs_quant_cut N) :=
  .nil
theorem F_quant_cut_ok (S : Nat → Addr) (N : Nat) : ∀ x y, (c_quant_cut N).g x = some y → FCon Go.Proofs.Tryd.prog E S 98 ps_quant_cut rs_quant_cut x y := by
  intro x y h
  exact fun_spec E_ok mixed (cs_quant_cut_ok S N) (f := 98) (fi := ⟨b_quant_cut, 12, Go.Proofs.Tryd.f98.results.toList⟩) (by kernel_rfl) (ls := []) (.nil) (by kernel_rfl) (ps := ps_quant_cut) (rs := rs_quant_cut) (Eq.trans (b := F_quant_cut N x.1 x.2.1 x.2.2.1) (by kernel_rfl) h)

/-! lodge/quant.Requant -/

abbrev ps_quant_Requant : List Ty := [(.int .i64), (.int .i64), (.int .i64), (.int .i64)]
abbrev rs_quant_Requant : List Slot := [.data (.int .i64)]
abbrev cs_quant_Requant (N : Nat) : List CallSpec := [c_quant_cut N]
noncomputable abbrev b_quant_Requant : Code := (Go.Proofs.Tryd.f94.body).getD .skip

def F_quant_Requant (N : Nat) (x_0 : Int) (mult_1 : Int) (shift_2 : Int) (zero_3 : Int) : Option (Int × Unit) :=
  Option.bind (F_quant_cut N x_0 (-(2147483648 : Int)) (2147483647 : Int)) fun y0 =>
  Option.bind (F_quant_cut N mult_1 (0 : Int) (2147483647 : Int)) fun y1 =>
  Option.bind (F_quant_cut N shift_2 (0 : Int) (62 : Int)) fun y2 =>
  cond (decide ((0 : Int) < (y2).1))
    (
    cond (decide ((0 : Int) ≤ (wi64 ((y2).1 - (1 : Int)))))
      (
      cond (decide ((0 : Int) ≤ (y2).1))
        (
        Option.bind (F_quant_cut N zero_3 (-(128 : Int)) (127 : Int)) fun y3 =>
        Option.bind (F_quant_cut N (wi64 ((Go.Eng.shrI Go.IntKind.i64 (wi64 ((wi64 ((y0).1 * (y1).1)) + (Go.Eng.shlI Go.IntKind.i64 (1 : Int) (wi64 ((y2).1 - (1 : Int)))))) (y2).1) + (y3).1)) (-(128 : Int)) (127 : Int)) fun y4 =>
        some y4)
        (
        none))
      (
      none))
    (
    Option.bind (F_quant_cut N zero_3 (-(128 : Int)) (127 : Int)) fun y5 =>
    Option.bind (F_quant_cut N (wi64 ((wi64 ((y0).1 * (y1).1)) + (y5).1)) (-(128 : Int)) (127 : Int)) fun y6 =>
    some y6)

abbrev c_quant_Requant (N : Nat) : CallSpec := ⟨94, ps_quant_Requant, rs_quant_Requant, fun x => F_quant_Requant N x.1 x.2.1 x.2.2.1 x.2.2.2.1⟩

theorem cs_quant_Requant_ok (S : Nat → Addr) (N : Nat) : CallsOK Go.Proofs.Tryd.prog E S (cs_quant_Requant N) :=
  .cons (F_quant_cut_ok S N) (.nil)
theorem F_quant_Requant_ok (S : Nat → Addr) (N : Nat) : ∀ x y, (c_quant_Requant N).g x = some y → FCon Go.Proofs.Tryd.prog E S 94 ps_quant_Requant rs_quant_Requant x y := by
  intro x y h
  exact fun_spec E_ok mixed (cs_quant_Requant_ok S N) (f := 94) (fi := ⟨b_quant_Requant, 31, Go.Proofs.Tryd.f94.results.toList⟩) (by kernel_rfl) (ls := []) (.nil) (by kernel_rfl) (ps := ps_quant_Requant) (rs := rs_quant_Requant) (Eq.trans (b := F_quant_Requant N x.1 x.2.1 x.2.2.1 x.2.2.2.1) (by kernel_rfl) h)

/-! lodge/elem.Value -/

abbrev ps_elem_Value : List Ty := [(.int .i64), .bool, (.int .i64), (.int .i64), (.sl (.int .i64))]
abbrev rs_elem_Value : List Slot := [.data (.int .i64)]
abbrev cs_elem_Value (N : Nat) : List CallSpec := [c_elem_counts N, c_elem_kind N, c_quant_Requant N]
noncomputable abbrev b_elem_Value : Code := (Go.Proofs.Tryd.f83.body).getD .skip

def F_elem_Value (N : Nat) (op_0 : Int) (wide_1 : Bool) (x_2 : Int) (y_3 : Int) (args_4 : List Int) : Option (Int × Unit) :=
  Option.bind (F_elem_counts N op_0) fun y0 =>
  cond (decide ((Nat.cast (List.length args_4) : Int) < ((y0).2).1))
    (
    some ((0 : Int), ()))
    (
    cond (decide (op_0 = (4 : Int)))
      (
      Option.bind (F_elem_kind N (wi64 (x_2 + y_3)) wide_1) fun y1 =>
      some y1)
      (
      cond (decide (op_0 = (5 : Int)))
        (
        Option.bind (F_elem_kind N (wi64 (x_2 - y_3)) wide_1) fun y2 =>
        some y2)
        (
        cond (decide (op_0 = (6 : Int)))
          (
          Option.bind (F_elem_kind N (wi64 (x_2 * y_3)) wide_1) fun y3 =>
          some y3)
          (
          cond (decide (op_0 = (7 : Int)))
            (
            some ((Go.Eng.imax x_2 y_3), ()))
            (
            cond (decide (op_0 = (8 : Int)))
              (
              some ((Go.Eng.imax x_2 (0 : Int)), ()))
              (
              cond (decide (op_0 = (9 : Int)))
                (
                cond (decide (0 < (List.length args_4)))
                  (
                  cond (decide (1 < (List.length args_4)))
                    (
                    some ((Go.Eng.imax (List.getD args_4 0 (0 : Int)) (Go.Eng.imin x_2 (List.getD args_4 1 (0 : Int)))), ()))
                    (
                    none))
                  (
                  none))
                (
                cond (decide (op_0 = (10 : Int)))
                  (
                  cond (decide (0 < (List.length args_4)))
                    (
                    cond (decide (1 < (List.length args_4)))
                      (
                      cond (decide (2 < (List.length args_4)))
                        (
                        Option.bind (F_quant_Requant N x_2 (List.getD args_4 0 (0 : Int)) (List.getD args_4 1 (0 : Int)) (List.getD args_4 2 (0 : Int))) fun y4 =>
                        some y4)
                        (
                        none))
                      (
                      none))
                    (
                    none))
                  (
                  cond (decide (op_0 = (11 : Int)))
                    (
                    cond (decide (0 < (List.length args_4)))
                      (
                      some ((wi64 (x_2 - (List.getD args_4 0 (0 : Int)))), ()))
                      (
                      none))
                    (
                    some ((0 : Int), ()))))))))))

abbrev c_elem_Value (N : Nat) : CallSpec := ⟨83, ps_elem_Value, rs_elem_Value, fun x => F_elem_Value N x.1 x.2.1 x.2.2.1 x.2.2.2.1 x.2.2.2.2.1⟩

theorem cs_elem_Value_ok (S : Nat → Addr) (N : Nat) : CallsOK Go.Proofs.Tryd.prog E S (cs_elem_Value N) :=
  .cons (F_elem_counts_ok S N) (.cons (F_elem_kind_ok S N) (.cons (F_quant_Requant_ok S N) (.nil)))
theorem F_elem_Value_ok (S : Nat → Addr) (N : Nat) : ∀ x y, (c_elem_Value N).g x = some y → FCon Go.Proofs.Tryd.prog E S 83 ps_elem_Value rs_elem_Value x y := by
  intro x y h
  exact fun_spec E_ok mixed (cs_elem_Value_ok S N) (f := 83) (fi := ⟨b_elem_Value, 86, Go.Proofs.Tryd.f83.results.toList⟩) (by kernel_rfl) (ls := []) (.nil) (by kernel_rfl) (ps := ps_elem_Value) (rs := rs_elem_Value) (Eq.trans (b := F_elem_Value N x.1 x.2.1 x.2.2.1 x.2.2.2.1 x.2.2.2.2.1) (by kernel_rfl) h)

/-! lodge/op.At -/

abbrev ps_op_At : List Ty := [(.int .i64), (.sl (.int .i64)), (.int .i64), (.st (.pair (.sl (.int .i64)) .bool)), (.sl (.st (.pair (.sl (.int .i64)) .bool))), (.sl (.clo 77 (.ref (.st (.pair (.st (.pair (.sl (.int .i64)) .bool)) (.sl (.int .i64)))))))]
abbrev rs_op_At : List Slot := [.data (.int .i64)]
abbrev cs_op_At (N : Nat) : List CallSpec := [c_op_reads_1 N, c_mat_At N, c_conv_At N, c_pool_At N, c_soft_At N, c_elem_Value N]
noncomputable abbrev b_op_At : Code := (Go.Proofs.Tryd.f57.body).getD .skip

def F_op_At (N : Nat) (op_0 : Int) (args_1 : List Int) (i_2 : Int) (d_3 : (List Int × Bool)) (descs_4 : List ((List Int × Bool))) (ins_5 : List ((List Int × Bool) × List Int)) : Option (Int × Unit) :=
  cond (decide (0 < (List.length descs_4)))
    (
    cond (decide (op_0 = (12 : Int)))
      (
      cond (decide (1 < (List.length ((List.getD descs_4 0 (([] : List Int), false))).1)))
        (
        cond (decide (1 < (List.length descs_4)))
          (
          cond (decide (1 < (List.length ((List.getD descs_4 1 (([] : List Int), false))).1)))
            (
            cond (decide (0 < (List.length ins_5)))
              (
              cond (decide (1 < (List.length ins_5)))
                (
                cond (decide (0 < (List.length args_1)))
                  (
                  cond (decide (1 < (List.length args_1)))
                    (
                    Option.bind (F_mat_At N (List.getD ((List.getD descs_4 0 (([] : List Int), false))).1 1 (0 : Int)) (List.getD ((List.getD descs_4 1 (([] : List Int), false))).1 1 (0 : Int)) (List.getD ins_5 0 ((([] : List Int), false), ([] : List Int))) (List.getD ins_5 1 ((([] : List Int), false), ([] : List Int))) (List.getD args_1 0 (0 : Int)) (List.getD args_1 1 (0 : Int)) i_2) fun y0 =>
                    some y0)
                    (
                    none))
                  (
                  none))
                (
                none))
              (
              none))
            (
            none))
          (
          none))
        (
        none))
      (
      cond (decide (op_0 = (13 : Int)))
        (
        cond (decide (1 < (List.length descs_4)))
          (
          cond (decide (0 < (List.length ins_5)))
            (
            cond (decide (1 < (List.length ins_5)))
              (
              cond (decide (1 < (List.length (d_3).1)))
                (
                Option.bind (F_conv_At N args_1 ((List.getD descs_4 0 (([] : List Int), false))).1 ((List.getD descs_4 1 (([] : List Int), false))).1 (List.getD ins_5 0 ((([] : List Int), false), ([] : List Int))) (List.getD ins_5 1 ((([] : List Int), false), ([] : List Int))) i_2 (List.getD (d_3).1 1 (0 : Int))) fun y1 =>
                some y1)
                (
                none))
              (
              none))
            (
            none))
          (
          none))
        (
        cond (decide (op_0 = (14 : Int)))
          (
          cond (decide (0 < (List.length ins_5)))
            (
            cond (decide (1 < (List.length (d_3).1)))
              (
              Option.bind (F_pool_At N (decide (op_0 = (15 : Int))) args_1 ((List.getD descs_4 0 (([] : List Int), false))).1 (List.getD ins_5 0 ((([] : List Int), false), ([] : List Int))) i_2 (List.getD (d_3).1 1 (0 : Int))) fun y2 =>
              some y2)
              (
              none))
            (
            none))
          (
          cond (decide (op_0 = (15 : Int)))
            (
            cond (decide (0 < (List.length ins_5)))
              (
              cond (decide (1 < (List.length (d_3).1)))
                (
                Option.bind (F_pool_At N (decide (op_0 = (15 : Int))) args_1 ((List.getD descs_4 0 (([] : List Int), false))).1 (List.getD ins_5 0 ((([] : List Int), false), ([] : List Int))) i_2 (List.getD (d_3).1 1 (0 : Int))) fun y3 =>
                some y3)
                (
                none))
              (
              none))
            (
            cond (decide (op_0 = (16 : Int)))
              (
              Option.bind (F_soft_At N op_0 i_2 descs_4 ins_5) fun y4 =>
              some y4)
              (
              cond (decide (op_0 = (19 : Int)))
                (
                Option.bind (F_soft_At N op_0 i_2 descs_4 ins_5) fun y5 =>
                some y5)
                (
                cond (decide (op_0 = (20 : Int)))
                  (
                  Option.bind (F_soft_At N op_0 i_2 descs_4 ins_5) fun y6 =>
                  some y6)
                  (
                  cond (decide (op_0 = (17 : Int)))
                    (
                    Option.bind (F_soft_At N op_0 i_2 descs_4 ins_5) fun y7 =>
                    some y7)
                    (
                    cond (decide (op_0 = (18 : Int)))
                      (
                      cond (decide (0 < (List.length ins_5)))
                        (
                        Option.bind (F_op_reads_1 N i_2 (List.getD ins_5 0 ((([] : List Int), false), ([] : List Int)))) fun y8 =>
                        some y8)
                        (
                        none))
                      (
                      cond (decide (op_0 = (21 : Int)))
                        (
                        cond (decide (0 < (List.length ((List.getD descs_4 0 (([] : List Int), false))).1)))
                          (
                          cond (decide (1 < (List.length ((List.getD descs_4 0 (([] : List Int), false))).1)))
                            (
                            cond (decide (0 < (List.length ins_5)))
                              (
                              cond (decide (@Ne Int (List.getD ((List.getD descs_4 0 (([] : List Int), false))).1 0 (0 : Int)) (0 : Int)))
                                (
                                cond (decide (@Ne Int (List.getD ((List.getD descs_4 0 (([] : List Int), false))).1 0 (0 : Int)) (0 : Int)))
                                  (
                                  Option.bind (F_op_reads_1 N (wi64 ((wi64 ((Int.tmod i_2 (List.getD ((List.getD descs_4 0 (([] : List Int), false))).1 0 (0 : Int))) * (List.getD ((List.getD descs_4 0 (([] : List Int), false))).1 1 (0 : Int)))) + (wi64 (Int.tdiv i_2 (List.getD ((List.getD descs_4 0 (([] : List Int), false))).1 0 (0 : Int)))))) (List.getD ins_5 0 ((([] : List Int), false), ([] : List Int)))) fun y9 =>
                                  some y9)
                                  (
                                  none))
                                (
                                none))
                              (
                              none))
                            (
                            none))
                          (
                          none))
                        (
                        cond (decide ((1 : Int) < (Nat.cast (List.length ins_5) : Int)))
                          (
                          cond (decide (1 < (List.length ins_5)))
                            (
                            Option.bind (F_op_reads_1 N i_2 (List.getD ins_5 1 ((([] : List Int), false), ([] : List Int)))) fun y10 =>
                            cond (decide (0 < (List.length descs_4)))
                              (
                              cond (decide (0 < (List.length ins_5)))
                                (
                                Option.bind (F_op_reads_1 N i_2 (List.getD ins_5 0 ((([] : List Int), false), ([] : List Int)))) fun y11 =>
                                Option.bind (F_elem_Value N op_0 ((List.getD descs_4 0 (([] : List Int), false))).2 (y11).1 (y10).1 args_1) fun y12 =>
                                some y12)
                                (
                                none))
                              (
                              none))
                            (
                            none))
                          (
                          cond (decide (0 < (List.length descs_4)))
                            (
                            cond (decide (0 < (List.length ins_5)))
                              (
                              Option.bind (F_op_reads_1 N i_2 (List.getD ins_5 0 ((([] : List Int), false), ([] : List Int)))) fun y13 =>
                              Option.bind (F_elem_Value N op_0 ((List.getD descs_4 0 (([] : List Int), false))).2 (y13).1 (0 : Int) args_1) fun y14 =>
                              some y14)
                              (
                              none))
                            (
                            none)))))))))))))
    (
    none)

abbrev c_op_At (N : Nat) : CallSpec := ⟨57, ps_op_At, rs_op_At, fun x => F_op_At N x.1 x.2.1 x.2.2.1 x.2.2.2.1 x.2.2.2.2.1 x.2.2.2.2.2.1⟩

theorem cs_op_At_ok (S : Nat → Addr) (N : Nat) : CallsOK Go.Proofs.Tryd.prog E S (cs_op_At N) :=
  .cons (F_op_reads_1_ok S N) (.cons (F_mat_At_ok S N) (.cons (F_conv_At_ok S N) (.cons (F_pool_At_ok S N) (.cons (F_soft_At_ok S N) (.cons (F_elem_Value_ok S N) (.nil))))))
theorem F_op_At_ok (S : Nat → Addr) (N : Nat) : ∀ x y, (c_op_At N).g x = some y → FCon Go.Proofs.Tryd.prog E S 57 ps_op_At rs_op_At x y := by
  intro x y h
  exact fun_spec E_ok mixed (cs_op_At_ok S N) (f := 57) (fi := ⟨b_op_At, 142, Go.Proofs.Tryd.f57.results.toList⟩) (by kernel_rfl) (ls := []) (.nil) (by kernel_rfl) (ps := ps_op_At) (rs := rs_op_At) (Eq.trans (b := F_op_At N x.1 x.2.1 x.2.2.1 x.2.2.2.1 x.2.2.2.2.1 x.2.2.2.2.2.1) (by kernel_rfl) h)


end Go.Proofs.YtnblnlanicpagaaDoor.Lg
