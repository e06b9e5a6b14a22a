/-
  The functions of the seat's program, as plain functions.
-/
import Derived.Test.YtnblnlanicpagaaDoorLgOpAFc
namespace Go.Proofs.YtnblnlanicpagaaDoor.Lg
open Go Go.Eng Go.Proofs
set_option maxRecDepth 100000

/-! lodge/op.Apply -/

abbrev ps_op_Apply : List Ty := [(.int .i64), (.sl (.int .i64)), (.sl (.st (.pair (.st (.pair (.sl (.int .i64)) .bool)) (.sl (.int .i64)))))]
abbrev rs_op_Apply : List Slot := [.ag [.d (.sl (.int .i64)), .d .bool, .sl (.int .i64)], .data .err]
abbrev cs_op_Apply (N : Nat) : List CallSpec := [c_shape_Elems N, c_op_result N, c_op_reads N, c_op_At N]
noncomputable abbrev b_op_Apply : Code := (Go.Proofs.Tryd.f22.body).getD .skip

abbrev h_op_Apply_0 : List Slot := [.data (.int .i64), .data (.sl (.int .i64)), .dead, .dead, .dead, .dead, .box [.sl (.int .i64), .d .bool, .sl (.int .i64)], .dead, .box [.d (.st (.pair (.sl (.int .i64)) .bool))], .data (.sl (.st (.pair (.sl (.int .i64)) .bool))), .dead, .box [.d (.sl (.int .i64)), .d .bool, .sl (.int .i64)], .sl (.clo 77 (.ref (.st (.pair (.st (.pair (.sl (.int .i64)) .bool)) (.sl (.int .i64)))))), .dead, .dead, .dead, .dead, .dead, .dead, .dead, .dead, .dead, .dead, .dead, .dead, .dead, .dead, .dead, .dead, .dead, .dead, .dead, .data (.int .i64), .data (.int .i64), .dead, .dead, .dead, .dead, .dead, .dead, .dead, .dead, .dead, .dead, .dead, .dead, .dead, .dead, .dead, .dead]
abbrev e_op_Apply_0 : List (AX × List Slot) := [(AX.exit 0, [.dead, .dead, .dead, .dead, .dead, .dead, .box [.sl (.int .i64), .d .bool, .sl (.int .i64)], .dead, .dead, .dead, .dead, .box [.d (.sl (.int .i64)), .d .bool, .sl (.int .i64)], .dead, .dead, .dead, .dead, .dead, .dead, .dead, .dead, .dead, .dead, .dead, .dead, .dead, .dead, .dead, .dead, .dead, .dead, .dead, .dead, .dead, .dead, .dead, .dead, .dead, .dead, .dead, .dead, .dead, .dead, .dead, .dead, .dead, .dead, .dead, .dead, .dead, .dead])]
def g_op_Apply_0 (N : Nat) : Nat → Int → List Int → (List Int × (Bool × (List Int × Unit))) → ((List Int × Bool) × Unit) → List ((List Int × Bool)) → (List Int × (Bool × (List Int × Unit))) → List ((List Int × Bool) × List Int) → Int → Int → Option ((List Int × (Bool × (List Int × Unit))) × ((List Int × (Bool × (List Int × Unit))) × Unit))
  | 0, _, _, _, _, _, _, _, _, _ => none
  | n + 1, op_0, args_1, t_6, d_8, descs_9, out_11, get_12, t_32, t_33 =>
    cond (decide (t_33 < t_32))
      (
      cond (decide (((0 : Nat) + (List.length get_12)) ≤ (List.length get_12)))
        (
        Option.bind (F_op_At N op_0 args_1 t_33 (d_8).1 descs_9 (List.take (List.length get_12) get_12)) fun y4 =>
        cond (decide (((0 : Nat) + (List.length (((out_11).2).2).1)) = (List.length (((out_11).2).2).1)))
          (
          cond (decide ((((List.length (((out_11).2).2).1) + 1) * (8 + (1 : Nat))) ≤ Go.Eng.most))
            (
            cond (decide ((List.length (t_6).1) = (List.length (t_6).1)))
              (
              cond (decide ((List.length (((t_6).2).2).1) = (List.length (((t_6).2).2).1)))
                (
                cond (decide (((List.length (((out_11).2).2).1) + 1) = (List.length ((List.take (List.length (((out_11).2).2).1) (((out_11).2).2).1) ++ ((y4).1 :: ([] : List Int))))))
                  (
                  cond (decide ((List.length get_12) = (List.length get_12)))
                    (
                    (g_op_Apply_0 N n op_0 args_1 t_6 d_8 descs_9 ((out_11).1, (((out_11).2).1, (((List.take (List.length (((out_11).2).2).1) (((out_11).2).2).1) ++ ((y4).1 :: ([] : List Int))), ()))) get_12 t_32 (wi64 (t_33 + (1 : Int)))))
                    (
                    none))
                  (
                  none))
                (
                none))
              (
              none))
            (
            none))
          (
          none))
        (
        none))
      (
      cond (decide ((List.length (t_6).1) = (List.length (t_6).1)))
        (
        cond (decide ((List.length (((t_6).2).2).1) = (List.length (((t_6).2).2).1)))
          (
          cond (decide ((List.length (((out_11).2).2).1) = (List.length (((out_11).2).2).1)))
            (
            some (t_6, (out_11, ())))
            (
            none))
          (
          none))
        (
        none))

def F_op_Apply (N : Nat) (op_0 : Int) (args_1 : List Int) (ins_2 : List (((List Int × Bool) × List Int))) : Option ((List Int × (Bool × (List Int × Unit))) × (Er × Unit)) :=
  Option.bind (F_op_result N op_0 args_1 ins_2) fun y0 =>
  cond (Bool.not (Go.Eng.Er.isNil (((y0).2).2).1))
    (
    some ((([] : List Int), (false, (([] : List Int), ()))), ((y0).2).2))
    (
    Option.bind (F_op_reads N ins_2) fun y1 =>
    Option.bind (F_shape_Elems N ((y0).1).1) fun y2 =>
    cond (decide ((List.length (y1).1) = (List.length (y1).1)))
      (
      Option.bind (g_op_Apply_0 N N op_0 args_1 (([] : List Int), (false, (([] : List Int), ()))) ((y0).1, ()) ((y0).2).1 (((y0).1).1, (((y0).1).2, (([] : List Int), ()))) (y1).1 (y2).1 (0 : Int)) fun y3 =>
      cond (decide ((List.length (((((y3).2).1).2).2).1) = (List.length (((((y3).2).1).2).2).1)))
        (
        some (((y3).2).1, (Go.Eng.Er.nil, ())))
        (
        none))
      (
      none))

abbrev c_op_Apply (N : Nat) : CallSpec := ⟨22, ps_op_Apply, rs_op_Apply, fun x => F_op_Apply N x.1 x.2.1 x.2.2.1⟩
abbrev l_op_Apply_0 (N : Nat) : LoopSpec := ⟨0, h_op_Apply_0, e_op_Apply_0, fun x => g_op_Apply_0 N N x.1 x.2.1 x.2.2.1 x.2.2.2.1 x.2.2.2.2.1 x.2.2.2.2.2.1 x.2.2.2.2.2.2.1 x.2.2.2.2.2.2.2.1 x.2.2.2.2.2.2.2.2.1⟩

theorem cs_op_Apply_ok (S : Nat → Addr) (N : Nat) : CallsOK Go.Proofs.Tryd.prog E S (cs_op_Apply N) :=
  .cons (F_shape_Elems_ok S N) (.cons (F_op_result_ok S N) (.cons (F_op_reads_ok S N) (.cons (F_op_At_ok S N) (.nil))))
noncomputable abbrev b_op_Apply_0 : Code := (loopsOf b_op_Apply).getD 0 .skip
theorem g_op_Apply_0_ok (S : Nat → Addr) (N : Nat) : ∀ n x y, (fun (x : Val (slotsTy h_op_Apply_0)) => g_op_Apply_0 N n x.1 x.2.1 x.2.2.1 x.2.2.2.1 x.2.2.2.2.1 x.2.2.2.2.2.1 x.2.2.2.2.2.2.1 x.2.2.2.2.2.2.2.1 x.2.2.2.2.2.2.2.2.1) x = some y → LoopCon Go.Proofs.Tryd.prog E S b_op_Apply_0 (encSlots h_op_Apply_0 x) (encEx e_op_Apply_0 y).1 (encEx e_op_Apply_0 y).2 :=
  loop_spec E_ok mixed (cs_op_Apply_ok S N) (all := loopsOf b_op_Apply) (ls := []) (.nil) (i := 0) (by kernel_rfl) (inner_of (by kernel_rfl)) (head := h_op_Apply_0) (ex := e_op_Apply_0) (fun n (x : Val (slotsTy h_op_Apply_0)) => g_op_Apply_0 N n x.1 x.2.1 x.2.2.1 x.2.2.2.1 x.2.2.2.2.1 x.2.2.2.2.2.1 x.2.2.2.2.2.2.1 x.2.2.2.2.2.2.2.1 x.2.2.2.2.2.2.2.2.1) (fun _ => rfl) (fun n x => by kernel_rfl)
theorem F_op_Apply_ok (S : Nat → Addr) (N : Nat) : ∀ x y, (c_op_Apply N).g x = some y → FCon Go.Proofs.Tryd.prog E S 22 ps_op_Apply rs_op_Apply x y := by
  intro x y h
  exact fun_spec E_ok mixed (cs_op_Apply_ok S N) (f := 22) (fi := ⟨b_op_Apply, 50, Go.Proofs.Tryd.f22.results.toList⟩) (by kernel_rfl) (ls := [l_op_Apply_0 N]) (.cons (by kernel_rfl) (g_op_Apply_0_ok S N N) (.nil)) (by kernel_rfl) (ps := ps_op_Apply) (rs := rs_op_Apply) (Eq.trans (b := F_op_Apply N x.1 x.2.1 x.2.2.1) (by kernel_rfl) h)

/-! lodge/lodgeref.SameInts -/

abbrev ps_lodgeref_SameInts : List Ty := [(.sl (.int .i64)), (.sl (.int .i64))]
abbrev rs_lodgeref_SameInts : List Slot := [.data .bool]
abbrev cs_lodgeref_SameInts (N : Nat) : List CallSpec := []
noncomputable abbrev b_lodgeref_SameInts : Code := (Go.Proofs.Tryd.f24.body).getD .skip

abbrev h_lodgeref_SameInts_0 : List Slot := [.data (.sl (.int .i64)), .data (.sl (.int .i64)), .dead, .dead, .dead, .data (.int .i64), .dead, .dead, .dead, .dead, .dead, .dead, .dead, .dead, .dead, .dead, .dead, .dead, .dead, .dead, .dead, .dead, .dead, .dead, .dead, .dead, .dead, .dead, .dead]
abbrev e_lodgeref_SameInts_0 : List (AX × List Slot) := [(AX.exit 0, [.dead, .dead, .dead, .dead, .dead, .dead, .dead, .dead, .dead, .dead, .dead, .dead, .dead, .dead, .dead, .dead, .dead, .dead, .dead, .dead, .dead, .dead, .dead, .dead, .dead, .dead, .dead, .dead, .dead]), (AX.ret, [.dead, .dead, .dead, .dead, .data .bool, .dead, .dead, .dead, .dead, .dead, .dead, .dead, .dead, .dead, .dead, .dead, .dead, .dead, .dead, .dead, .dead, .dead, .dead, .dead, .dead, .dead, .dead, .dead, .dead])]
def g_lodgeref_SameInts_0 (N : Nat) : Nat → List Int → List Int → Int → Option (Sum Unit (Bool × Unit))
  | 0, _, _, _ => none
  | n + 1, a_0, b_1, i_5 =>
    cond (decide (i_5 < (Nat.cast (List.length a_0) : Int)))
      (
      cond (decide ((0 : Int) ≤ i_5))
        (
        cond (decide ((Int.toNat i_5) < (List.length a_0)))
          (
          cond (decide ((0 : Int) ≤ i_5))
            (
            cond (decide ((Int.toNat i_5) < (List.length b_1)))
              (
              cond (Bool.not (decide ((List.getD a_0 (Int.toNat i_5) (0 : Int)) = (List.getD b_1 (Int.toNat i_5) (0 : Int)))))
                (
                some (Sum.inr (false, ())))
                (
                (g_lodgeref_SameInts_0 N n a_0 b_1 (wi64 (i_5 + (1 : Int))))))
              (
              none))
            (
            none))
          (
          none))
        (
        none))
      (
      some (Sum.inl ()))

def F_lodgeref_SameInts (N : Nat) (a_0 : List Int) (b_1 : List Int) : Option (Bool × Unit) :=
  cond (decide (@Ne Int (Nat.cast (List.length a_0) : Int) (Nat.cast (List.length b_1) : Int)))
    (
    some (false, ()))
    (
    Option.bind (g_lodgeref_SameInts_0 N N a_0 b_1 (0 : Int)) fun y0 =>
    Sum.elim (fun y1 =>
      some (true, ()))
      (fun y2 =>
      some y2) y0)

abbrev c_lodgeref_SameInts (N : Nat) : CallSpec := ⟨24, ps_lodgeref_SameInts, rs_lodgeref_SameInts, fun x => F_lodgeref_SameInts N x.1 x.2.1⟩
abbrev l_lodgeref_SameInts_0 (N : Nat) : LoopSpec := ⟨0, h_lodgeref_SameInts_0, e_lodgeref_SameInts_0, fun x => g_lodgeref_SameInts_0 N N x.1 x.2.1 x.2.2.1⟩

theorem cs_lodgeref_SameInts_ok (S : Nat → Addr) (N : Nat) : CallsOK Go.Proofs.Tryd.prog E S (cs_lodgeref_SameInts N) :=
  .nil
noncomputable abbrev b_lodgeref_SameInts_0 : Code := (loopsOf b_lodgeref_SameInts).getD 0 .skip
theorem g_lodgeref_SameInts_0_ok (S : Nat → Addr) (N : Nat) : ∀ n x y, (fun (x : Val (slotsTy h_lodgeref_SameInts_0)) => g_lodgeref_SameInts_0 N n x.1 x.2.1 x.2.2.1) x = some y → LoopCon Go.Proofs.Tryd.prog E S b_lodgeref_SameInts_0 (encSlots h_lodgeref_SameInts_0 x) (encEx e_lodgeref_SameInts_0 y).1 (encEx e_lodgeref_SameInts_0 y).2 :=
  loop_spec E_ok mixed (cs_lodgeref_SameInts_ok S N) (all := loopsOf b_lodgeref_SameInts) (ls := []) (.nil) (i := 0) (by kernel_rfl) (inner_of (by kernel_rfl)) (head := h_lodgeref_SameInts_0) (ex := e_lodgeref_SameInts_0) (fun n (x : Val (slotsTy h_lodgeref_SameInts_0)) => g_lodgeref_SameInts_0 N n x.1 x.2.1 x.2.2.1) (fun _ => rfl) (fun n x => by kernel_rfl)
theorem F_lodgeref_SameInts_ok (S : Nat → Addr) (N : Nat) : ∀ x y, (c_lodgeref_SameInts N).g x = some y → FCon Go.Proofs.Tryd.prog E S 24 ps_lodgeref_SameInts rs_lodgeref_SameInts x y := by
  intro x y h
  exact fun_spec E_ok mixed (cs_lodgeref_SameInts_ok S N) (f := 24) (fi := ⟨b_lodgeref_SameInts, 29, Go.Proofs.Tryd.f24.results.toList⟩) (by kernel_rfl) (ls := [l_lodgeref_SameInts_0 N]) (.cons (by kernel_rfl) (g_lodgeref_SameInts_0_ok S N N) (.nil)) (by kernel_rfl) (ps := ps_lodgeref_SameInts) (rs := rs_lodgeref_SameInts) (Eq.trans (b := F_lodgeref_SameInts N x.1 x.2.1) (by kernel_rfl) h)

/-! lodge/lodgeref.SameDesc -/

abbrev ps_lodgeref_SameDesc : List Ty := [(.st (.pair (.sl (.int .i64)) .bool)), (.st (.pair (.sl (.int .i64)) .bool))]
abbrev rs_lodgeref_SameDesc : List Slot := [.data .bool]
abbrev cs_lodgeref_SameDesc (N : Nat) : List CallSpec := [c_lodgeref_SameInts N]
noncomputable abbrev b_lodgeref_SameDesc : Code := (Go.Proofs.Tryd.f16.body).getD .skip

def F_lodgeref_SameDesc (N : Nat) (a_0 : (List Int × Bool)) (b_1 : (List Int × Bool)) : Option (Bool × Unit) :=
  Option.bind (F_lodgeref_SameInts N (a_0).1 (b_1).1) fun y0 =>
  cond (y0).1
    (
    some (((a_0).2 == (b_1).2), ()))
    (
    some (false, ()))

abbrev c_lodgeref_SameDesc (N : Nat) : CallSpec := ⟨16, ps_lodgeref_SameDesc, rs_lodgeref_SameDesc, fun x => F_lodgeref_SameDesc N x.1 x.2.1⟩

theorem cs_lodgeref_SameDesc_ok (S : Nat → Addr) (N : Nat) : CallsOK Go.Proofs.Tryd.prog E S (cs_lodgeref_SameDesc N) :=
  .cons (F_lodgeref_SameInts_ok S N) (.nil)
theorem F_lodgeref_SameDesc_ok (S : Nat → Addr) (N : Nat) : ∀ x y, (c_lodgeref_SameDesc N).g x = some y → FCon Go.Proofs.Tryd.prog E S 16 ps_lodgeref_SameDesc rs_lodgeref_SameDesc x y := by
  intro x y h
  exact fun_spec E_ok mixed (cs_lodgeref_SameDesc_ok S N) (f := 16) (fi := ⟨b_lodgeref_SameDesc, 19, Go.Proofs.Tryd.f16.results.toList⟩) (by kernel_rfl) (ls := []) (.nil) (by kernel_rfl) (ps := ps_lodgeref_SameDesc) (rs := rs_lodgeref_SameDesc) (Eq.trans (b := F_lodgeref_SameDesc N x.1 x.2.1) (by kernel_rfl) h)

/-! lodge/lodgeref.SameTensor -/

abbrev ps_lodgeref_SameTensor : List Ty := [(.st (.pair (.st (.pair (.sl (.int .i64)) .bool)) (.sl (.int .i64)))), (.st (.pair (.st (.pair (.sl (.int .i64)) .bool)) (.sl (.int .i64))))]
abbrev rs_lodgeref_SameTensor : List Slot := [.data .bool]
abbrev cs_lodgeref_SameTensor (N : Nat) : List CallSpec := [c_lodgeref_SameInts N, c_lodgeref_SameDesc N]
noncomputable abbrev b_lodgeref_SameTensor : Code := (Go.Proofs.Tryd.f23.body).getD .skip

def F_lodgeref_SameTensor (N : Nat) (a_0 : ((List Int × Bool) × List Int)) (b_1 : ((List Int × Bool) × List Int)) : Option (Bool × Unit) :=
  Option.bind (F_lodgeref_SameDesc N (a_0).1 (b_1).1) fun y0 =>
  Option.bind (F_lodgeref_SameInts N (a_0).2 (b_1).2) fun y1 =>
  cond (y0).1
    (
    some y1)
    (
    some (false, ()))

abbrev c_lodgeref_SameTensor (N : Nat) : CallSpec := ⟨23, ps_lodgeref_SameTensor, rs_lodgeref_SameTensor, fun x => F_lodgeref_SameTensor N x.1 x.2.1⟩

theorem cs_lodgeref_SameTensor_ok (S : Nat → Addr) (N : Nat) : CallsOK Go.Proofs.Tryd.prog E S (cs_lodgeref_SameTensor N) :=
  .cons (F_lodgeref_SameInts_ok S N) (.cons (F_lodgeref_SameDesc_ok S N) (.nil))
theorem F_lodgeref_SameTensor_ok (S : Nat → Addr) (N : Nat) : ∀ x y, (c_lodgeref_SameTensor N).g x = some y → FCon Go.Proofs.Tryd.prog E S 23 ps_lodgeref_SameTensor rs_lodgeref_SameTensor x y := by
  intro x y h
  exact fun_spec E_ok mixed (cs_lodgeref_SameTensor_ok S N) (f := 23) (fi := ⟨b_lodgeref_SameTensor, 21, Go.Proofs.Tryd.f23.results.toList⟩) (by kernel_rfl) (ls := []) (.nil) (by kernel_rfl) (ps := ps_lodgeref_SameTensor) (rs := rs_lodgeref_SameTensor) (Eq.trans (b := F_lodgeref_SameTensor N x.1 x.2.1) (by kernel_rfl) h)

/-! lodge/lodgelaw12.OpShapes -/

abbrev ps_lodgelaw12_OpShapes : List Ty := [(.int .i64), (.int .i64), (.sl (.int .i64))]
abbrev rs_lodgelaw12_OpShapes : List Slot := [.data .bool]
abbrev cs_lodgelaw12_OpShapes (N : Nat) : List CallSpec := [c_lodgelaw12_first N, c_lodgeworld_Number N, c_op_Apply N, c_lodgeref_SameInts N, c_lodgeref_SameTensor N]
noncomputable abbrev b_lodgelaw12_OpShapes : Code := (Go.Proofs.Tryd.f6.body).getD .skip

abbrev h_lodgelaw12_OpShapes_0 : List Slot := [.data (.int .i64), .data (.int .i64), .data (.sl (.int .i64)), .dead, .dead, .dead, .dead, .dead, .box [.sl (.int .i64), .d .bool, .sl (.int .i64)], .data (.int .i64), .dead, .dead, .dead, .dead, .dead, .dead, .dead, .dead, .dead, .dead, .dead, .dead, .dead, .dead, .dead, .dead, .dead, .dead, .dead, .dead, .dead, .dead, .dead, .dead, .dead, .dead, .dead, .dead, .dead, .dead, .dead, .dead, .dead, .dead, .dead, .dead, .dead, .dead, .dead, .dead, .dead, .dead, .dead, .dead, .dead, .dead, .dead, .dead, .dead, .dead, .dead, .dead, .dead, .dead, .dead, .dead, .dead, .dead, .dead, .dead, .dead, .dead, .dead, .dead, .dead, .dead, .dead, .dead, .dead, .dead, .dead, .dead, .dead, .dead, .dead, .dead, .dead, .dead, .dead, .dead, .dead, .dead, .dead, .dead, .dead, .dead, .dead, .dead, .dead, .dead, .dead, .dead, .dead, .dead, .dead, .dead, .dead, .dead, .dead, .dead, .dead, .dead, .dead, .dead, .dead, .dead, .dead, .dead, .dead, .dead, .dead, .dead, .dead, .dead, .dead, .dead, .dead, .dead, .dead, .dead, .dead, .dead, .dead, .dead, .dead, .dead, .dead]
abbrev e_lodgelaw12_OpShapes_0 : List (AX × List Slot) := [(AX.exit 0, [.data (.int .i64), .data (.int .i64), .dead, .dead, .dead, .dead, .dead, .dead, .box [.sl (.int .i64), .d .bool, .sl (.int .i64)], .dead, .dead, .dead, .dead, .dead, .dead, .dead, .dead, .dead, .dead, .dead, .dead, .dead, .dead, .dead, .dead, .dead, .dead, .dead, .dead, .dead, .dead, .dead, .dead, .dead, .dead, .dead, .dead, .dead, .dead, .dead, .dead, .dead, .dead, .dead, .dead, .dead, .dead, .dead, .dead, .dead, .dead, .dead, .dead, .dead, .dead, .dead, .dead, .dead, .dead, .dead, .dead, .dead, .dead, .dead, .dead, .dead, .dead, .dead, .dead, .dead, .dead, .dead, .dead, .dead, .dead, .dead, .dead, .dead, .dead, .dead, .dead, .dead, .dead, .dead, .dead, .dead, .dead, .dead, .dead, .dead, .dead, .dead, .dead, .dead, .dead, .dead, .dead, .dead, .dead, .dead, .dead, .dead, .dead, .dead, .dead, .dead, .dead, .dead, .dead, .dead, .dead, .dead, .dead, .dead, .dead, .dead, .dead, .dead, .dead, .dead, .dead, .dead, .dead, .dead, .dead, .dead, .dead, .dead, .dead, .dead, .dead, .dead, .dead, .dead, .dead, .dead, .dead])]
def g_lodgelaw12_OpShapes_0 (N : Nat) : Nat → Int → Int → List Int → (List Int × (Bool × (List Int × Unit))) → Int → Option (Int × (Int × ((List Int × (Bool × (List Int × Unit))) × Unit)))
  | 0, _, _, _, _, _ => none
  | n + 1, m_0, n_1, l_2, a_8, i_9 =>
    cond (decide (i_9 < (wi64 (m_0 * n_1))))
      (
      cond (decide ((0 : Int) < (Nat.cast (List.length l_2) : Int)))
        (
        cond (decide (@Ne Int (Nat.cast (List.length l_2) : Int) (0 : Int)))
          (
          cond (decide ((0 : Int) ≤ (Int.tmod i_9 (Nat.cast (List.length l_2) : Int))))
            (
            cond (decide ((Int.toNat (Int.tmod i_9 (Nat.cast (List.length l_2) : Int))) < (List.length l_2)))
              (
              Option.bind (F_lodgeworld_Number N (List.getD l_2 (Int.toNat (Int.tmod i_9 (Nat.cast (List.length l_2) : Int))) (0 : Int)) (1000000 : Int)) fun y5 =>
              cond (decide (((0 : Nat) + (List.length (((a_8).2).2).1)) = (List.length (((a_8).2).2).1)))
                (
                cond (decide ((((List.length (((a_8).2).2).1) + 1) * (8 + (1 : Nat))) ≤ Go.Eng.most))
                  (
                  cond (decide ((List.length (a_8).1) = (List.length (a_8).1)))
                    (
                    cond (decide (((List.length (((a_8).2).2).1) + 1) = (List.length ((List.take (List.length (((a_8).2).2).1) (((a_8).2).2).1) ++ ((y5).1 :: ([] : List Int))))))
                      (
                      (g_lodgelaw12_OpShapes_0 N n m_0 n_1 l_2 ((a_8).1, (((a_8).2).1, (((List.take (List.length (((a_8).2).2).1) (((a_8).2).2).1) ++ ((y5).1 :: ([] : List Int))), ()))) (wi64 (i_9 + (1 : Int)))))
                      (
                      none))
                    (
                    none))
                  (
                  none))
                (
                none))
              (
              none))
            (
            none))
          (
          none))
        (
        Option.bind (F_lodgeworld_Number N i_9 (1000000 : Int)) fun y6 =>
        cond (decide (((0 : Nat) + (List.length (((a_8).2).2).1)) = (List.length (((a_8).2).2).1)))
          (
          cond (decide ((((List.length (((a_8).2).2).1) + 1) * (8 + (1 : Nat))) ≤ Go.Eng.most))
            (
            cond (decide ((List.length (a_8).1) = (List.length (a_8).1)))
              (
              cond (decide (((List.length (((a_8).2).2).1) + 1) = (List.length ((List.take (List.length (((a_8).2).2).1) (((a_8).2).2).1) ++ ((y6).1 :: ([] : List Int))))))
                (
                (g_lodgelaw12_OpShapes_0 N n m_0 n_1 l_2 ((a_8).1, (((a_8).2).1, (((List.take (List.length (((a_8).2).2).1) (((a_8).2).2).1) ++ ((y6).1 :: ([] : List Int))), ()))) (wi64 (i_9 + (1 : Int)))))
                (
                none))
              (
              none))
            (
            none))
          (
          none)))
      (
      cond (decide ((List.length (a_8).1) = (List.length (a_8).1)))
        (
        cond (decide ((List.length (((a_8).2).2).1) = (List.length (((a_8).2).2).1)))
          (
          some (m_0, (n_1, (a_8, ()))))
          (
          none))
        (
        none))

def F_lodgelaw12_OpShapes (N : Nat) (m_0 : Int) (n_1 : Int) (l_2 : List Int) : Option (Bool × Unit) :=
  Option.bind (F_lodgelaw12_first N) fun y0 =>
  cond (Bool.not (y0).1)
    (
    some (false, ()))
    (
    Option.bind (F_lodgeworld_Number N m_0 (10 : Int)) fun y1 =>
    Option.bind (F_lodgeworld_Number N n_1 (10 : Int)) fun y2 =>
    cond (decide ((50 : Int) < (Nat.cast (List.length l_2) : Int)))
      (
      some y0)
      (
      cond (Bool.not (y0).1)
        (
        some y0)
        (
        Option.bind (g_lodgelaw12_OpShapes_0 N N (wi64 ((y1).1 + (1 : Int))) (wi64 ((y2).1 + (1 : Int))) l_2 (((wi64 ((y1).1 + (1 : Int))) :: ((wi64 ((y2).1 + (1 : Int))) :: ([] : List Int))), (true, (([] : List Int), ()))) (0 : Int)) fun y3 =>
        cond (decide (((0 : Nat) + (List.length ((((y3).2).2).1).1)) ≤ (List.length ((((y3).2).2).1).1)))
          (
          cond (decide (((0 : Nat) + (List.length ((((((y3).2).2).1).2).2).1)) ≤ (List.length ((((((y3).2).2).1).2).2).1)))
            (
            Option.bind (F_op_Apply N (21 : Int) ([] : List Int) ((((List.take (List.length ((((y3).2).2).1).1) ((((y3).2).2).1).1), (((((y3).2).2).1).2).1), (List.take (List.length ((((((y3).2).2).1).2).2).1) ((((((y3).2).2).1).2).2).1)) :: ([] : List (((List Int) × Bool) × (List Int))))) fun y4 =>
            cond (decide (((0 : Nat) + (List.length ((((y4).1).2).2).1)) ≤ (List.length ((((y4).1).2).2).1)))
              (
              Option.bind (F_op_Apply N (21 : Int) ([] : List Int) (((((y4).1).1, (((y4).1).2).1), (List.take (List.length ((((y4).1).2).2).1) ((((y4).1).2).2).1)) :: ([] : List (((List Int) × Bool) × (List Int))))) fun y5 =>
              cond (decide (((0 : Nat) + (List.length ((((y3).2).2).1).1)) ≤ (List.length ((((y3).2).2).1).1)))
                (
                cond (decide (((0 : Nat) + (List.length ((((((y3).2).2).1).2).2).1)) ≤ (List.length ((((((y3).2).2).1).2).2).1)))
                  (
                  Option.bind (F_op_Apply N (18 : Int) ((wi64 (((y3).2).1 * (y3).1)) :: ([] : List Int)) ((((List.take (List.length ((((y3).2).2).1).1) ((((y3).2).2).1).1), (((((y3).2).2).1).2).1), (List.take (List.length ((((((y3).2).2).1).2).2).1) ((((((y3).2).2).1).2).2).1)) :: ([] : List (((List Int) × Bool) × (List Int))))) fun y6 =>
                  cond (decide (((0 : Nat) + (List.length ((((y6).1).2).2).1)) ≤ (List.length ((((y6).1).2).2).1)))
                    (
                    Option.bind (F_op_Apply N (18 : Int) ((y3).1 :: (((y3).2).1 :: ([] : List Int))) (((((y6).1).1, (((y6).1).2).1), (List.take (List.length ((((y6).1).2).2).1) ((((y6).1).2).2).1)) :: ([] : List (((List Int) × Bool) × (List Int))))) fun y7 =>
                    cond (Go.Eng.Er.isNil ((y4).2).1)
                      (
                      cond (Go.Eng.Er.isNil ((y5).2).1)
                        (
                        cond (Go.Eng.Er.isNil ((y6).2).1)
                          (
                          cond (Go.Eng.Er.isNil ((y7).2).1)
                            (
                            cond (decide (((0 : Nat) + (List.length ((((y3).2).2).1).1)) ≤ (List.length ((((y3).2).2).1).1)))
                              (
                              cond (decide (((0 : Nat) + (List.length ((((((y3).2).2).1).2).2).1)) ≤ (List.length ((((((y3).2).2).1).2).2).1)))
                                (
                                cond (decide (((0 : Nat) + (List.length ((((y5).1).2).2).1)) ≤ (List.length ((((y5).1).2).2).1)))
                                  (
                                  Option.bind (F_lodgeref_SameTensor N (((List.take (List.length ((((y3).2).2).1).1) ((((y3).2).2).1).1), (((((y3).2).2).1).2).1), (List.take (List.length ((((((y3).2).2).1).2).2).1) ((((((y3).2).2).1).2).2).1)) ((((y5).1).1, (((y5).1).2).1), (List.take (List.length ((((y5).1).2).2).1) ((((y5).1).2).2).1))) fun y8 =>
                                  cond (y8).1
                                    (
                                    cond (decide (((0 : Nat) + (List.length ((((y3).2).2).1).1)) ≤ (List.length ((((y3).2).2).1).1)))
                                      (
                                      cond (decide (((0 : Nat) + (List.length ((((((y3).2).2).1).2).2).1)) ≤ (List.length ((((((y3).2).2).1).2).2).1)))
                                        (
                                        cond (decide (((0 : Nat) + (List.length ((((y7).1).2).2).1)) ≤ (List.length ((((y7).1).2).2).1)))
                                          (
                                          Option.bind (F_lodgeref_SameTensor N (((List.take (List.length ((((y3).2).2).1).1) ((((y3).2).2).1).1), (((((y3).2).2).1).2).1), (List.take (List.length ((((((y3).2).2).1).2).2).1) ((((((y3).2).2).1).2).2).1)) ((((y7).1).1, (((y7).1).2).1), (List.take (List.length ((((y7).1).2).2).1) ((((y7).1).2).2).1))) fun y9 =>
                                          cond (y9).1
                                            (
                                            Option.bind (F_lodgeref_SameInts N ((y4).1).1 (((y3).2).1 :: ((y3).1 :: ([] : List Int)))) fun y10 =>
                                            cond (y10).1
                                              (
                                              cond (decide (((0 : Nat) + (List.length ((((y6).1).2).2).1)) ≤ (List.length ((((y6).1).2).2).1)))
                                                (
                                                cond (decide (((0 : Nat) + (List.length ((((((y3).2).2).1).2).2).1)) ≤ (List.length ((((((y3).2).2).1).2).2).1)))
                                                  (
                                                  Option.bind (F_lodgeref_SameInts N (List.take (List.length ((((y6).1).2).2).1) ((((y6).1).2).2).1) (List.take (List.length ((((((y3).2).2).1).2).2).1) ((((((y3).2).2).1).2).2).1)) fun y11 =>
                                                  some y11)
                                                  (
                                                  none))
                                                (
                                                none))
                                              (
                                              some (false, ())))
                                            (
                                            some (false, ())))
                                          (
                                          none))
                                        (
                                        none))
                                      (
                                      none))
                                    (
                                    some (false, ())))
                                  (
                                  none))
                                (
                                none))
                              (
                              none))
                            (
                            some (false, ())))
                          (
                          some (false, ())))
                        (
                        some (false, ())))
                      (
                      some (false, ())))
                    (
                    none))
                  (
                  none))
                (
                none))
              (
              none))
            (
            none))
          (
          none))))

abbrev c_lodgelaw12_OpShapes (N : Nat) : CallSpec := ⟨6, ps_lodgelaw12_OpShapes, rs_lodgelaw12_OpShapes, fun x => F_lodgelaw12_OpShapes N x.1 x.2.1 x.2.2.1⟩
abbrev l_lodgelaw12_OpShapes_0 (N : Nat) : LoopSpec := ⟨0, h_lodgelaw12_OpShapes_0, e_lodgelaw12_OpShapes_0, fun x => g_lodgelaw12_OpShapes_0 N N x.1 x.2.1 x.2.2.1 x.2.2.2.1 x.2.2.2.2.1⟩

theorem cs_lodgelaw12_OpShapes_ok (S : Nat → Addr) (N : Nat) : CallsOK Go.Proofs.Tryd.prog E S (cs_lodgelaw12_OpShapes N) :=
  .cons (F_lodgelaw12_first_ok S N) (.cons (F_lodgeworld_Number_ok S N) (.cons (F_op_Apply_ok S N) (.cons (F_lodgeref_SameInts_ok S N) (.cons (F_lodgeref_SameTensor_ok S N) (.nil)))))
noncomputable abbrev b_lodgelaw12_OpShapes_0 : Code := (loopsOf b_lodgelaw12_OpShapes).getD 0 .skip
theorem g_lodgelaw12_OpShapes_0_ok (S : Nat → Addr) (N : Nat) : ∀ n x y, (fun (x : Val (slotsTy h_lodgelaw12_OpShapes_0)) => g_lodgelaw12_OpShapes_0 N n x.1 x.2.1 x.2.2.1 x.2.2.2.1 x.2.2.2.2.1) x = some y → LoopCon Go.Proofs.Tryd.prog E S b_lodgelaw12_OpShapes_0 (encSlots h_lodgelaw12_OpShapes_0 x) (encEx e_lodgelaw12_OpShapes_0 y).1 (encEx e_lodgelaw12_OpShapes_0 y).2 :=
  loop_spec E_ok mixed (cs_lodgelaw12_OpShapes_ok S N) (all := loopsOf b_lodgelaw12_OpShapes) (ls := []) (.nil) (i := 0) (by kernel_rfl) (inner_of (by kernel_rfl)) (head := h_lodgelaw12_OpShapes_0) (ex := e_lodgelaw12_OpShapes_0) (fun n (x : Val (slotsTy h_lodgelaw12_OpShapes_0)) => g_lodgelaw12_OpShapes_0 N n x.1 x.2.1 x.2.2.1 x.2.2.2.1 x.2.2.2.2.1) (fun _ => rfl) (fun n x => by kernel_rfl)
theorem F_lodgelaw12_OpShapes_ok (S : Nat → Addr) (N : Nat) : ∀ x y, (c_lodgelaw12_OpShapes N).g x = some y → FCon Go.Proofs.Tryd.prog E S 6 ps_lodgelaw12_OpShapes rs_lodgelaw12_OpShapes x y := by
  intro x y h
  exact fun_spec E_ok mixed (cs_lodgelaw12_OpShapes_ok S N) (f := 6) (fi := ⟨b_lodgelaw12_OpShapes, 137, Go.Proofs.Tryd.f6.results.toList⟩) (by kernel_rfl) (ls := [l_lodgelaw12_OpShapes_0 N]) (.cons (by kernel_rfl) (g_lodgelaw12_OpShapes_0_ok S N N) (.nil)) (by kernel_rfl) (ps := ps_lodgelaw12_OpShapes) (rs := rs_lodgelaw12_OpShapes) (Eq.trans (b := F_lodgelaw12_OpShapes N x.1 x.2.1 x.2.2.1) (by kernel_rfl) h)

/-! lodge/lodgelaw12.OpMixes -/

abbrev ps_lodgelaw12_OpMixes : List Ty := [(.sl (.int .i64))]
abbrev rs_lodgelaw12_OpMixes : List Slot := [.data .bool]
abbrev cs_lodgelaw12_OpMixes (N : Nat) : List CallSpec := [c_lodgelaw12_first N, c_lodgeworld_Number N, c_op_Apply N, c_lodgeref_SameInts N]
noncomputable abbrev b_lodgelaw12_OpMixes : Code := (Go.Proofs.Tryd.f7.body).getD .skip

abbrev h_lodgelaw12_OpMixes_0 : List Slot := [.data (.sl (.int .i64)), .dead, .dead, .dead, .data (.int .i64), .box [.sl (.int .i64), .d .bool, .sl (.int .i64)], .box [.sl (.int .i64), .d .bool, .sl (.int .i64)], .data (.int .i64), .dead, .dead, .dead, .dead, .dead, .dead, .dead, .dead, .dead, .dead, .dead, .dead, .dead, .dead, .dead, .dead, .dead, .dead, .dead, .dead, .dead, .dead, .dead, .dead, .dead, .dead, .dead, .dead, .dead, .dead, .dead, .dead, .dead, .dead, .dead, .dead, .dead, .dead, .dead, .dead, .dead, .dead, .dead, .dead, .dead, .dead, .dead, .dead, .dead, .dead, .dead, .dead, .dead, .dead, .dead, .dead, .dead, .dead, .dead, .dead, .dead, .dead, .dead, .dead, .dead, .dead, .dead, .dead, .dead, .dead, .dead, .dead, .dead, .dead, .dead, .dead, .dead, .dead, .dead, .dead, .dead, .dead, .dead, .dead, .dead, .dead, .dead, .dead, .dead, .dead, .dead, .dead, .dead, .dead, .dead, .dead, .dead, .dead, .dead, .dead, .dead, .dead, .dead, .dead, .dead, .dead, .dead, .dead, .dead, .dead, .dead, .dead, .dead, .dead, .dead, .dead, .dead, .dead, .dead, .dead, .dead, .dead, .dead, .dead, .dead, .dead, .dead, .dead, .dead, .dead, .dead, .dead, .dead, .dead, .dead, .dead, .dead, .dead, .dead, .dead, .dead, .dead, .dead, .dead, .dead, .dead, .dead, .dead, .dead, .dead, .dead, .dead, .dead, .dead, .dead, .dead, .dead, .dead, .dead, .dead, .dead, .dead, .dead, .dead, .dead, .dead, .dead, .dead, .dead, .dead, .dead, .dead, .dead, .dead, .dead, .dead, .dead, .dead, .dead, .dead, .dead, .dead, .dead, .dead, .dead, .dead, .dead, .dead, .dead, .dead, .dead, .dead, .dead, .dead, .dead, .dead, .dead, .dead, .dead, .dead, .dead, .dead, .dead, .dead, .dead, .dead, .dead]
abbrev e_lodgelaw12_OpMixes_0 : List (AX × List Slot) := [(AX.exit 0, [.dead, .dead, .dead, .dead, .dead, .box [.sl (.int .i64), .d .bool, .sl (.int .i64)], .box [.sl (.int .i64), .d .bool, .sl (.int .i64)], .dead, .dead, .dead, .dead, .dead, .dead, .dead, .dead, .dead, .dead, .dead, .dead, .dead, .dead, .dead, .dead, .dead, .dead, .dead, .dead, .dead, .dead, .dead, .dead, .dead, .dead, .dead, .dead, .dead, .dead, .dead, .dead, .dead, .dead, .dead, .dead, .dead, .dead, .dead, .dead, .dead, .dead, .dead, .dead, .dead, .dead, .dead, .dead, .dead, .dead, .dead, .dead, .dead, .dead, .dead, .dead, .dead, .dead, .dead, .dead, .dead, .dead, .dead, .dead, .dead, .dead, .dead, .dead, .dead, .dead, .dead, .dead, .dead, .dead, .dead, .dead, .dead, .dead, .dead, .dead, .dead, .dead, .dead, .dead, .dead, .dead, .dead, .dead, .dead, .dead, .dead, .dead, .dead, .dead, .dead, .dead, .dead, .dead, .dead, .dead, .dead, .dead, .dead, .dead, .dead, .dead, .dead, .dead, .dead, .dead, .dead, .dead, .dead, .dead, .dead, .dead, .dead, .dead, .dead, .dead, .dead, .dead, .dead, .dead, .dead, .dead, .dead, .dead, .dead, .dead, .dead, .dead, .dead, .dead, .dead, .dead, .dead, .dead, .dead, .dead, .dead, .dead, .dead, .dead, .dead, .dead, .dead, .dead, .dead, .dead, .dead, .dead, .dead, .dead, .dead, .dead, .dead, .dead, .dead, .dead, .dead, .dead, .dead, .dead, .dead, .dead, .dead, .dead, .dead, .dead, .dead, .dead, .dead, .dead, .dead, .dead, .dead, .dead, .dead, .dead, .dead, .dead, .dead, .dead, .dead, .dead, .dead, .dead, .dead, .dead, .dead, .dead, .dead, .dead, .dead, .dead, .dead, .dead, .dead, .dead, .dead, .dead, .dead, .dead, .dead, .dead, .dead, .dead])]
def g_lodgelaw12_OpMixes_0 (N : Nat) : Nat → List Int → Int → (List Int × (Bool × (List Int × Unit))) → (List Int × (Bool × (List Int × Unit))) → Int → Option ((List Int × (Bool × (List Int × Unit))) × ((List Int × (Bool × (List Int × Unit))) × Unit))
  | 0, _, _, _, _, _ => none
  | n + 1, l_0, n_4, a_5, b_6, i_7 =>
    cond (decide (i_7 < n_4))
      (
      cond (decide ((0 : Int) ≤ i_7))
        (
        cond (decide ((Int.toNat i_7) < (List.length l_0)))
          (
          Option.bind (F_lodgeworld_Number N (List.getD l_0 (Int.toNat i_7) (0 : Int)) (256 : Int)) fun y4 =>
          cond (decide (((0 : Nat) + (List.length (((a_5).2).2).1)) = (List.length (((a_5).2).2).1)))
            (
            cond (decide ((((List.length (((a_5).2).2).1) + 1) * (8 + (1 : Nat))) ≤ Go.Eng.most))
              (
              cond (decide ((0 : Int) ≤ i_7))
                (
                cond (decide ((Int.toNat i_7) < (List.length l_0)))
                  (
                  Option.bind (F_lodgeworld_Number N (wi64 ((wi64 ((List.getD l_0 (Int.toNat i_7) (0 : Int)) * (7 : Int))) + i_7)) (256 : Int)) fun y5 =>
                  cond (decide (((0 : Nat) + (List.length (((b_6).2).2).1)) = (List.length (((b_6).2).2).1)))
                    (
                    cond (decide ((((List.length (((b_6).2).2).1) + 1) * (8 + (1 : Nat))) ≤ Go.Eng.most))
                      (
                      cond (decide ((List.length (a_5).1) = (List.length (a_5).1)))
                        (
                        cond (decide (((List.length (((a_5).2).2).1) + 1) = (List.length ((List.take (List.length (((a_5).2).2).1) (((a_5).2).2).1) ++ ((wi64 ((y4).1 - (128 : Int))) :: ([] : List Int))))))
                          (
                          cond (decide ((List.length (b_6).1) = (List.length (b_6).1)))
                            (
                            cond (decide (((List.length (((b_6).2).2).1) + 1) = (List.length ((List.take (List.length (((b_6).2).2).1) (((b_6).2).2).1) ++ ((wi64 ((y5).1 - (128 : Int))) :: ([] : List Int))))))
                              (
                              (g_lodgelaw12_OpMixes_0 N n l_0 n_4 ((a_5).1, (((a_5).2).1, (((List.take (List.length (((a_5).2).2).1) (((a_5).2).2).1) ++ ((wi64 ((y4).1 - (128 : Int))) :: ([] : List Int))), ()))) ((b_6).1, (((b_6).2).1, (((List.take (List.length (((b_6).2).2).1) (((b_6).2).2).1) ++ ((wi64 ((y5).1 - (128 : Int))) :: ([] : List Int))), ()))) (wi64 (i_7 + (1 : Int)))))
                              (
                              none))
                            (
                            none))
                          (
                          none))
                        (
                        none))
                      (
                      none))
                    (
                    none))
                  (
                  none))
                (
                none))
              (
              none))
            (
            none))
          (
          none))
        (
        none))
      (
      cond (decide ((List.length (a_5).1) = (List.length (a_5).1)))
        (
        cond (decide ((List.length (((a_5).2).2).1) = (List.length (((a_5).2).2).1)))
          (
          cond (decide ((List.length (b_6).1) = (List.length (b_6).1)))
            (
            cond (decide ((List.length (((b_6).2).2).1) = (List.length (((b_6).2).2).1)))
              (
              some (a_5, (b_6, ())))
              (
              none))
            (
            none))
          (
          none))
        (
        none))

abbrev j_lodgelaw12_OpMixes : Joins := [(25, [(AX.normal, [.dead, .dead, .dead, .dead, .dead, .dead, .dead, .dead, .box [.d (.sl (.int .i64)), .d .bool, .sl (.int .i64)], .dead, .dead, .dead, .dead, .dead, .dead, .dead, .dead, .dead, .box [.d (.sl (.int .i64)), .d .bool, .sl (.int .i64)], .dead, .dead, .dead, .dead, .dead, .dead, .dead, .box [.d (.sl (.int .i64)), .d .bool, .sl (.int .i64)], .dead, .box [.d (.sl (.int .i64)), .d .bool, .sl (.int .i64)], .dead, .dead, .dead, .dead, .dead, .dead, .dead, .dead, .dead, .dead, .dead, .dead, .dead, .dead, .dead, .dead, .dead, .dead, .dead, .dead, .dead, .dead, .dead, .dead, .dead, .dead, .dead, .dead, .dead, .dead, .dead, .dead, .dead, .dead, .dead, .dead, .dead, .dead, .dead, .dead, .dead, .dead, .dead, .dead, .dead, .dead, .dead, .dead, .dead, .dead, .dead, .dead, .dead, .dead, .dead, .dead, .dead, .dead, .dead, .dead, .dead, .dead, .dead, .dead, .dead, .dead, .dead, .dead, .dead, .dead, .dead, .dead, .dead, .dead, .dead, .dead, .dead, .dead, .dead, .dead, .dead, .dead, .dead, .dead, .dead, .dead, .dead, .dead, .dead, .dead, .dead, .dead, .dead, .dead, .dead, .dead, .dead, .dead, .dead, .dead, .dead, .dead, .dead, .dead, .dead, .dead, .dead, .dead, .dead, .dead, .dead, .dead, .dead, .dead, .dead, .dead, .dead, .dead, .dead, .dead, .dead, .dead, .dead, .dead, .dead, .dead, .dead, .dead, .dead, .dead, .dead, .dead, .dead, .dead, .dead, .dead, .dead, .dead, .dead, .dead, .dead, .dead, .dead, .dead, .dead, .dead, .dead, .dead, .dead, .dead, .dead, .dead, .dead, .dead, .dead, .dead, .dead, .dead, .dead, .dead, .dead, .dead, .dead, .dead, .dead, .dead, .dead, .dead, .dead, .dead, .dead, .dead, .dead, .data .bool, .dead, .dead, .dead, .dead, .dead, .dead, .dead, .dead, .dead, .dead, .dead, .dead])]),
  (6, [(AX.normal, [.data (.sl (.int .i64)), .dead, .dead, .data .bool, .dead, .dead, .dead, .dead, .dead, .dead, .dead, .dead, .dead, .dead, .dead, .dead, .dead, .dead, .dead, .dead, .dead, .dead, .dead, .dead, .dead, .dead, .dead, .dead, .dead, .dead, .dead, .dead, .dead, .dead, .dead, .dead, .dead, .dead, .dead, .dead, .dead, .dead, .dead, .dead, .data .bool, .dead, .dead, .dead, .dead, .dead, .dead, .dead, .dead, .dead, .dead, .dead, .dead, .dead, .dead, .dead, .dead, .dead, .dead, .dead, .dead, .dead, .dead, .dead, .dead, .dead, .dead, .dead, .dead, .dead, .dead, .dead, .dead, .dead, .dead, .dead, .dead, .dead, .dead, .dead, .dead, .dead, .dead, .dead, .dead, .dead, .dead, .dead, .dead, .dead, .dead, .dead, .dead, .dead, .dead, .dead, .dead, .dead, .dead, .dead, .dead, .dead, .dead, .dead, .dead, .dead, .dead, .dead, .dead, .dead, .dead, .dead, .dead, .dead, .dead, .dead, .dead, .dead, .dead, .dead, .dead, .dead, .dead, .dead, .dead, .dead, .dead, .dead, .dead, .dead, .dead, .dead, .dead, .dead, .dead, .dead, .dead, .dead, .dead, .dead, .dead, .dead, .dead, .dead, .dead, .dead, .dead, .dead, .dead, .dead, .dead, .dead, .dead, .dead, .dead, .dead, .dead, .dead, .dead, .dead, .dead, .dead, .dead, .dead, .dead, .dead, .dead, .dead, .dead, .dead, .dead, .dead, .dead, .dead, .dead, .dead, .dead, .dead, .dead, .dead, .dead, .dead, .dead, .dead, .dead, .dead, .dead, .dead, .dead, .dead, .dead, .dead, .dead, .dead, .dead, .dead, .dead, .dead, .dead, .dead, .dead, .dead, .dead, .dead, .dead, .dead, .dead, .dead, .dead, .dead, .dead])])]
def F_lodgelaw12_OpMixes (N : Nat) (l_0 : List Int) : Option (Bool × Unit) :=
  Option.bind (F_lodgelaw12_first N) fun y0 =>
  cond (Bool.not (y0).1)
    (
    some (false, ()))
    (
    Option.bind (
        cond (decide ((40 : Int) < (Nat.cast (List.length l_0) : Int)))
          (
          some (l_0, ((y0).1, (true, ()))))
          (
          cond (decide ((Nat.cast (List.length l_0) : Int) = (0 : Int)))
            (
            some (l_0, ((y0).1, (true, ()))))
            (
            some (l_0, ((y0).1, ((Bool.not (y0).1), ())))))) fun y1 =>
    cond (((y1).2).2).1
      (
      some (((y1).2).1, ()))
      (
      Option.bind (g_lodgelaw12_OpMixes_0 N N (y1).1 (Nat.cast (List.length (y1).1) : Int) (((1 : Int) :: ((Nat.cast (List.length (y1).1) : Int) :: ([] : List Int))), (false, (([] : List Int), ()))) (((Nat.cast (List.length (y1).1) : Int) :: ((1 : Int) :: ([] : List Int))), (false, (([] : List Int), ()))) (0 : Int)) fun y2 =>
      cond (decide (((0 : Nat) + (List.length ((y2).1).1)) ≤ (List.length ((y2).1).1)))
        (
        cond (decide (((0 : Nat) + (List.length ((((y2).1).2).2).1)) ≤ (List.length ((((y2).1).2).2).1)))
          (
          cond (decide (((0 : Nat) + (List.length (((y2).2).1).1)) ≤ (List.length (((y2).2).1).1)))
            (
            cond (decide (((0 : Nat) + (List.length (((((y2).2).1).2).2).1)) ≤ (List.length (((((y2).2).1).2).2).1)))
              (
              Option.bind (F_op_Apply N (12 : Int) ((0 : Int) :: ((0 : Int) :: ([] : List Int))) ((((List.take (List.length ((y2).1).1) ((y2).1).1), (((y2).1).2).1), (List.take (List.length ((((y2).1).2).2).1) ((((y2).1).2).2).1)) :: ((((List.take (List.length (((y2).2).1).1) (((y2).2).1).1), ((((y2).2).1).2).1), (List.take (List.length (((((y2).2).1).2).2).1) (((((y2).2).1).2).2).1)) :: ([] : List (((List Int) × Bool) × (List Int)))))) fun y3 =>
              cond (decide (((0 : Nat) + (List.length (((y2).2).1).1)) ≤ (List.length (((y2).2).1).1)))
                (
                cond (decide (((0 : Nat) + (List.length (((((y2).2).1).2).2).1)) ≤ (List.length (((((y2).2).1).2).2).1)))
                  (
                  Option.bind (F_op_Apply N (21 : Int) ([] : List Int) ((((List.take (List.length (((y2).2).1).1) (((y2).2).1).1), ((((y2).2).1).2).1), (List.take (List.length (((((y2).2).1).2).2).1) (((((y2).2).1).2).2).1)) :: ([] : List (((List Int) × Bool) × (List Int))))) fun y4 =>
                  cond (decide (((0 : Nat) + (List.length ((y2).1).1)) ≤ (List.length ((y2).1).1)))
                    (
                    cond (decide (((0 : Nat) + (List.length ((((y2).1).2).2).1)) ≤ (List.length ((((y2).1).2).2).1)))
                      (
                      Option.bind (F_op_Apply N (11 : Int) ((0 : Int) :: ([] : List Int)) ((((List.take (List.length ((y2).1).1) ((y2).1).1), (((y2).1).2).1), (List.take (List.length ((((y2).1).2).2).1) ((((y2).1).2).2).1)) :: ([] : List (((List Int) × Bool) × (List Int))))) fun y5 =>
                      cond (decide (((0 : Nat) + (List.length ((((y4).1).2).2).1)) ≤ (List.length ((((y4).1).2).2).1)))
                        (
                        Option.bind (F_op_Apply N (11 : Int) ((0 : Int) :: ([] : List Int)) (((((y4).1).1, (((y4).1).2).1), (List.take (List.length ((((y4).1).2).2).1) ((((y4).1).2).2).1)) :: ([] : List (((List Int) × Bool) × (List Int))))) fun y6 =>
                        cond (decide (((0 : Nat) + (List.length ((((y5).1).2).2).1)) ≤ (List.length ((((y5).1).2).2).1)))
                          (
                          cond (decide (((0 : Nat) + (List.length ((((y6).1).2).2).1)) ≤ (List.length ((((y6).1).2).2).1)))
                            (
                            Option.bind (F_op_Apply N (6 : Int) ([] : List Int) (((((y5).1).1, (((y5).1).2).1), (List.take (List.length ((((y5).1).2).2).1) ((((y5).1).2).2).1)) :: (((((y6).1).1, (((y6).1).2).1), (List.take (List.length ((((y6).1).2).2).1) ((((y6).1).2).2).1)) :: ([] : List (((List Int) × Bool) × (List Int)))))) fun y7 =>
                            cond (decide (((0 : Nat) + (List.length ((((y7).1).2).2).1)) ≤ (List.length ((((y7).1).2).2).1)))
                              (
                              Option.bind (F_op_Apply N (20 : Int) ([] : List Int) (((((y7).1).1, (((y7).1).2).1), (List.take (List.length ((((y7).1).2).2).1) ((((y7).1).2).2).1)) :: ([] : List (((List Int) × Bool) × (List Int))))) fun y8 =>
                              cond (decide (((0 : Nat) + (List.length ((y2).1).1)) ≤ (List.length ((y2).1).1)))
                                (
                                cond (decide (((0 : Nat) + (List.length ((((y2).1).2).2).1)) ≤ (List.length ((((y2).1).2).2).1)))
                                  (
                                  cond (decide (((0 : Nat) + (List.length ((((y4).1).2).2).1)) ≤ (List.length ((((y4).1).2).2).1)))
                                    (
                                    Option.bind (F_op_Apply N (7 : Int) ([] : List Int) ((((List.take (List.length ((y2).1).1) ((y2).1).1), (((y2).1).2).1), (List.take (List.length ((((y2).1).2).2).1) ((((y2).1).2).2).1)) :: (((((y4).1).1, (((y4).1).2).1), (List.take (List.length ((((y4).1).2).2).1) ((((y4).1).2).2).1)) :: ([] : List (((List Int) × Bool) × (List Int)))))) fun y9 =>
                                    cond (decide (((0 : Nat) + (List.length ((((y5).1).2).2).1)) ≤ (List.length ((((y5).1).2).2).1)))
                                      (
                                      cond (decide (((0 : Nat) + (List.length ((((y6).1).2).2).1)) ≤ (List.length ((((y6).1).2).2).1)))
                                        (
                                        Option.bind (F_op_Apply N (5 : Int) ([] : List Int) (((((y5).1).1, (((y5).1).2).1), (List.take (List.length ((((y5).1).2).2).1) ((((y5).1).2).2).1)) :: (((((y6).1).1, (((y6).1).2).1), (List.take (List.length ((((y6).1).2).2).1) ((((y6).1).2).2).1)) :: ([] : List (((List Int) × Bool) × (List Int)))))) fun y10 =>
                                        cond (decide (((0 : Nat) + (List.length ((((y10).1).2).2).1)) ≤ (List.length ((((y10).1).2).2).1)))
                                          (
                                          Option.bind (F_op_Apply N (8 : Int) ([] : List Int) (((((y10).1).1, (((y10).1).2).1), (List.take (List.length ((((y10).1).2).2).1) ((((y10).1).2).2).1)) :: ([] : List (((List Int) × Bool) × (List Int))))) fun y11 =>
                                          cond (decide (((0 : Nat) + (List.length ((((y11).1).2).2).1)) ≤ (List.length ((((y11).1).2).2).1)))
                                            (
                                            cond (decide (((0 : Nat) + (List.length ((((y6).1).2).2).1)) ≤ (List.length ((((y6).1).2).2).1)))
                                              (
                                              Option.bind (F_op_Apply N (4 : Int) ([] : List Int) (((((y11).1).1, (((y11).1).2).1), (List.take (List.length ((((y11).1).2).2).1) ((((y11).1).2).2).1)) :: (((((y6).1).1, (((y6).1).2).1), (List.take (List.length ((((y6).1).2).2).1) ((((y6).1).2).2).1)) :: ([] : List (((List Int) × Bool) × (List Int)))))) fun y12 =>
                                              cond (decide (((0 : Nat) + (List.length ((((y9).1).2).2).1)) ≤ (List.length ((((y9).1).2).2).1)))
                                                (
                                                Option.bind (F_op_Apply N (11 : Int) ((0 : Int) :: ([] : List Int)) (((((y9).1).1, (((y9).1).2).1), (List.take (List.length ((((y9).1).2).2).1) ((((y9).1).2).2).1)) :: ([] : List (((List Int) × Bool) × (List Int))))) fun y13 =>
                                                Option.bind (
                                                    cond (Bool.not (Go.Eng.Er.isNil ((y3).2).1))
                                                      (
                                                      cond (decide ((List.length ((((y3).1).2).2).1) = (List.length ((((y3).1).2).2).1)))
                                                        (
                                                        cond (decide ((List.length ((((y8).1).2).2).1) = (List.length ((((y8).1).2).2).1)))
                                                          (
                                                          cond (decide ((List.length ((((y12).1).2).2).1) = (List.length ((((y12).1).2).2).1)))
                                                            (
                                                            cond (decide ((List.length ((((y13).1).2).2).1) = (List.length ((((y13).1).2).2).1)))
                                                              (
                                                              some ((y3).1, ((y8).1, ((y12).1, ((y13).1, (true, ()))))))
                                                              (
                                                              none))
                                                            (
                                                            none))
                                                          (
                                                          none))
                                                        (
                                                        none))
                                                      (
                                                      cond (Bool.not (Go.Eng.Er.isNil ((y4).2).1))
                                                        (
                                                        cond (decide ((List.length ((((y3).1).2).2).1) = (List.length ((((y3).1).2).2).1)))
                                                          (
                                                          cond (decide ((List.length ((((y8).1).2).2).1) = (List.length ((((y8).1).2).2).1)))
                                                            (
                                                            cond (decide ((List.length ((((y12).1).2).2).1) = (List.length ((((y12).1).2).2).1)))
                                                              (
                                                              cond (decide ((List.length ((((y13).1).2).2).1) = (List.length ((((y13).1).2).2).1)))
                                                                (
                                                                some ((y3).1, ((y8).1, ((y12).1, ((y13).1, (true, ()))))))
                                                                (
                                                                none))
                                                              (
                                                              none))
                                                            (
                                                            none))
                                                          (
                                                          none))
                                                        (
                                                        cond (Bool.not (Go.Eng.Er.isNil ((y5).2).1))
                                                          (
                                                          cond (decide ((List.length ((((y3).1).2).2).1) = (List.length ((((y3).1).2).2).1)))
                                                            (
                                                            cond (decide ((List.length ((((y8).1).2).2).1) = (List.length ((((y8).1).2).2).1)))
                                                              (
                                                              cond (decide ((List.length ((((y12).1).2).2).1) = (List.length ((((y12).1).2).2).1)))
                                                                (
                                                                cond (decide ((List.length ((((y13).1).2).2).1) = (List.length ((((y13).1).2).2).1)))
                                                                  (
                                                                  some ((y3).1, ((y8).1, ((y12).1, ((y13).1, (true, ()))))))
                                                                  (
                                                                  none))
                                                                (
                                                                none))
                                                              (
                                                              none))
                                                            (
                                                            none))
                                                          (
                                                          cond (Bool.not (Go.Eng.Er.isNil ((y6).2).1))
                                                            (
                                                            cond (decide ((List.length ((((y3).1).2).2).1) = (List.length ((((y3).1).2).2).1)))
                                                              (
                                                              cond (decide ((List.length ((((y8).1).2).2).1) = (List.length ((((y8).1).2).2).1)))
                                                                (
                                                                cond (decide ((List.length ((((y12).1).2).2).1) = (List.length ((((y12).1).2).2).1)))
                                                                  (
                                                                  cond (decide ((List.length ((((y13).1).2).2).1) = (List.length ((((y13).1).2).2).1)))
                                                                    (
                                                                    some ((y3).1, ((y8).1, ((y12).1, ((y13).1, (true, ()))))))
                                                                    (
                                                                    none))
                                                                  (
                                                                  none))
                                                                (
                                                                none))
                                                              (
                                                              none))
                                                            (
                                                            cond (Bool.not (Go.Eng.Er.isNil ((y7).2).1))
                                                              (
                                                              cond (decide ((List.length ((((y3).1).2).2).1) = (List.length ((((y3).1).2).2).1)))
                                                                (
                                                                cond (decide ((List.length ((((y8).1).2).2).1) = (List.length ((((y8).1).2).2).1)))
                                                                  (
                                                                  cond (decide ((List.length ((((y12).1).2).2).1) = (List.length ((((y12).1).2).2).1)))
                                                                    (
                                                                    cond (decide ((List.length ((((y13).1).2).2).1) = (List.length ((((y13).1).2).2).1)))
                                                                      (
                                                                      some ((y3).1, ((y8).1, ((y12).1, ((y13).1, (true, ()))))))
                                                                      (
                                                                      none))
                                                                    (
                                                                    none))
                                                                  (
                                                                  none))
                                                                (
                                                                none))
                                                              (
                                                              cond (Bool.not (Go.Eng.Er.isNil ((y8).2).1))
                                                                (
                                                                cond (decide ((List.length ((((y3).1).2).2).1) = (List.length ((((y3).1).2).2).1)))
                                                                  (
                                                                  cond (decide ((List.length ((((y8).1).2).2).1) = (List.length ((((y8).1).2).2).1)))
                                                                    (
                                                                    cond (decide ((List.length ((((y12).1).2).2).1) = (List.length ((((y12).1).2).2).1)))
                                                                      (
                                                                      cond (decide ((List.length ((((y13).1).2).2).1) = (List.length ((((y13).1).2).2).1)))
                                                                        (
                                                                        some ((y3).1, ((y8).1, ((y12).1, ((y13).1, (true, ()))))))
                                                                        (
                                                                        none))
                                                                      (
                                                                      none))
                                                                    (
                                                                    none))
                                                                  (
                                                                  none))
                                                                (
                                                                cond (Bool.not (Go.Eng.Er.isNil ((y9).2).1))
                                                                  (
                                                                  cond (decide ((List.length ((((y3).1).2).2).1) = (List.length ((((y3).1).2).2).1)))
                                                                    (
                                                                    cond (decide ((List.length ((((y8).1).2).2).1) = (List.length ((((y8).1).2).2).1)))
                                                                      (
                                                                      cond (decide ((List.length ((((y12).1).2).2).1) = (List.length ((((y12).1).2).2).1)))
                                                                        (
                                                                        cond (decide ((List.length ((((y13).1).2).2).1) = (List.length ((((y13).1).2).2).1)))
                                                                          (
                                                                          some ((y3).1, ((y8).1, ((y12).1, ((y13).1, (true, ()))))))
                                                                          (
                                                                          none))
                                                                        (
                                                                        none))
                                                                      (
                                                                      none))
                                                                    (
                                                                    none))
                                                                  (
                                                                  cond (Bool.not (Go.Eng.Er.isNil ((y10).2).1))
                                                                    (
                                                                    cond (decide ((List.length ((((y3).1).2).2).1) = (List.length ((((y3).1).2).2).1)))
                                                                      (
                                                                      cond (decide ((List.length ((((y8).1).2).2).1) = (List.length ((((y8).1).2).2).1)))
                                                                        (
                                                                        cond (decide ((List.length ((((y12).1).2).2).1) = (List.length ((((y12).1).2).2).1)))
                                                                          (
                                                                          cond (decide ((List.length ((((y13).1).2).2).1) = (List.length ((((y13).1).2).2).1)))
                                                                            (
                                                                            some ((y3).1, ((y8).1, ((y12).1, ((y13).1, (true, ()))))))
                                                                            (
                                                                            none))
                                                                          (
                                                                          none))
                                                                        (
                                                                        none))
                                                                      (
                                                                      none))
                                                                    (
                                                                    cond (Bool.not (Go.Eng.Er.isNil ((y11).2).1))
                                                                      (
                                                                      cond (decide ((List.length ((((y3).1).2).2).1) = (List.length ((((y3).1).2).2).1)))
                                                                        (
                                                                        cond (decide ((List.length ((((y8).1).2).2).1) = (List.length ((((y8).1).2).2).1)))
                                                                          (
                                                                          cond (decide ((List.length ((((y12).1).2).2).1) = (List.length ((((y12).1).2).2).1)))
                                                                            (
                                                                            cond (decide ((List.length ((((y13).1).2).2).1) = (List.length ((((y13).1).2).2).1)))
                                                                              (
                                                                              some ((y3).1, ((y8).1, ((y12).1, ((y13).1, (true, ()))))))
                                                                              (
                                                                              none))
                                                                            (
                                                                            none))
                                                                          (
                                                                          none))
                                                                        (
                                                                        none))
                                                                      (
                                                                      cond (Bool.not (Go.Eng.Er.isNil ((y12).2).1))
                                                                        (
                                                                        cond (decide ((List.length ((((y3).1).2).2).1) = (List.length ((((y3).1).2).2).1)))
                                                                          (
                                                                          cond (decide ((List.length ((((y8).1).2).2).1) = (List.length ((((y8).1).2).2).1)))
                                                                            (
                                                                            cond (decide ((List.length ((((y12).1).2).2).1) = (List.length ((((y12).1).2).2).1)))
                                                                              (
                                                                              cond (decide ((List.length ((((y13).1).2).2).1) = (List.length ((((y13).1).2).2).1)))
                                                                                (
                                                                                some ((y3).1, ((y8).1, ((y12).1, ((y13).1, (true, ()))))))
                                                                                (
                                                                                none))
                                                                              (
                                                                              none))
                                                                            (
                                                                            none))
                                                                          (
                                                                          none))
                                                                        (
                                                                        cond (decide ((List.length ((((y3).1).2).2).1) = (List.length ((((y3).1).2).2).1)))
                                                                          (
                                                                          cond (decide ((List.length ((((y8).1).2).2).1) = (List.length ((((y8).1).2).2).1)))
                                                                            (
                                                                            cond (decide ((List.length ((((y12).1).2).2).1) = (List.length ((((y12).1).2).2).1)))
                                                                              (
                                                                              cond (decide ((List.length ((((y13).1).2).2).1) = (List.length ((((y13).1).2).2).1)))
                                                                                (
                                                                                some ((y3).1, ((y8).1, ((y12).1, ((y13).1, ((Bool.not (Go.Eng.Er.isNil ((y13).2).1)), ()))))))
                                                                                (
                                                                                none))
                                                                              (
                                                                              none))
                                                                            (
                                                                            none))
                                                                          (
                                                                          none)))))))))))) fun y14 =>
                                                cond (((((y14).2).2).2).2).1
                                                  (
                                                  some (false, ()))
                                                  (
                                                  cond (decide (((0 : Nat) + (List.length ((((y14).1).2).2).1)) ≤ (List.length ((((y14).1).2).2).1)))
                                                    (
                                                    cond (decide (((0 : Nat) + (List.length (((((y14).2).1).2).2).1)) ≤ (List.length (((((y14).2).1).2).2).1)))
                                                      (
                                                      Option.bind (F_lodgeref_SameInts N (List.take (List.length ((((y14).1).2).2).1) ((((y14).1).2).2).1) (List.take (List.length (((((y14).2).1).2).2).1) (((((y14).2).1).2).2).1)) fun y15 =>
                                                      cond (y15).1
                                                        (
                                                        cond (decide (((0 : Nat) + (List.length ((((((y14).2).2).1).2).2).1)) ≤ (List.length ((((((y14).2).2).1).2).2).1)))
                                                          (
                                                          cond (decide (((0 : Nat) + (List.length (((((((y14).2).2).2).1).2).2).1)) ≤ (List.length (((((((y14).2).2).2).1).2).2).1)))
                                                            (
                                                            Option.bind (F_lodgeref_SameInts N (List.take (List.length ((((((y14).2).2).1).2).2).1) ((((((y14).2).2).1).2).2).1) (List.take (List.length (((((((y14).2).2).2).1).2).2).1) (((((((y14).2).2).2).1).2).2).1)) fun y16 =>
                                                            some y16)
                                                            (
                                                            none))
                                                          (
                                                          none))
                                                        (
                                                        some (false, ())))
                                                      (
                                                      none))
                                                    (
                                                    none)))
                                                (
                                                none))
                                              (
                                              none))
                                            (
                                            none))
                                          (
                                          none))
                                        (
                                        none))
                                      (
                                      none))
                                    (
                                    none))
                                  (
                                  none))
                                (
                                none))
                              (
                              none))
                            (
                            none))
                          (
                          none))
                        (
                        none))
                      (
                      none))
                    (
                    none))
                  (
                  none))
                (
                none))
              (
              none))
            (
            none))
          (
          none))
        (
        none)))

abbrev c_lodgelaw12_OpMixes (N : Nat) : CallSpec := ⟨7, ps_lodgelaw12_OpMixes, rs_lodgelaw12_OpMixes, fun x => F_lodgelaw12_OpMixes N x.1⟩
abbrev l_lodgelaw12_OpMixes_0 (N : Nat) : LoopSpec := ⟨0, h_lodgelaw12_OpMixes_0, e_lodgelaw12_OpMixes_0, fun x => g_lodgelaw12_OpMixes_0 N N x.1 x.2.1 x.2.2.1 x.2.2.2.1 x.2.2.2.2.1⟩

theorem cs_lodgelaw12_OpMixes_ok (S : Nat → Addr) (N : Nat) : CallsOK Go.Proofs.Tryd.prog E S (cs_lodgelaw12_OpMixes N) :=
  .cons (F_lodgelaw12_first_ok S N) (.cons (F_lodgeworld_Number_ok S N) (.cons (F_op_Apply_ok S N) (.cons (F_lodgeref_SameInts_ok S N) (.nil))))
noncomputable abbrev b_lodgelaw12_OpMixes_0 : Code := (loopsOf b_lodgelaw12_OpMixes).getD 0 .skip
theorem g_lodgelaw12_OpMixes_0_ok (S : Nat → Addr) (N : Nat) : ∀ n x y, (fun (x : Val (slotsTy h_lodgelaw12_OpMixes_0)) => g_lodgelaw12_OpMixes_0 N n x.1 x.2.1 x.2.2.1 x.2.2.2.1 x.2.2.2.2.1) x = some y → LoopCon Go.Proofs.Tryd.prog E S b_lodgelaw12_OpMixes_0 (encSlots h_lodgelaw12_OpMixes_0 x) (encEx e_lodgelaw12_OpMixes_0 y).1 (encEx e_lodgelaw12_OpMixes_0 y).2 :=
  loop_spec E_ok mixed (cs_lodgelaw12_OpMixes_ok S N) (all := loopsOf b_lodgelaw12_OpMixes) (ls := []) (.nil) (i := 0) (by kernel_rfl) (inner_of (by kernel_rfl)) (head := h_lodgelaw12_OpMixes_0) (ex := e_lodgelaw12_OpMixes_0) (fun n (x : Val (slotsTy h_lodgelaw12_OpMixes_0)) => g_lodgelaw12_OpMixes_0 N n x.1 x.2.1 x.2.2.1 x.2.2.2.1 x.2.2.2.2.1) (fun _ => rfl) (fun n x => by kernel_rfl)
theorem F_lodgelaw12_OpMixes_ok (S : Nat → Addr) (N : Nat) : ∀ x y, (c_lodgelaw12_OpMixes N).g x = some y → FCon Go.Proofs.Tryd.prog E S 7 ps_lodgelaw12_OpMixes rs_lodgelaw12_OpMixes x y := by
  intro x y h
  exact fun_specJ E_ok mixed (cs_lodgelaw12_OpMixes_ok S N) (f := 7) (fi := ⟨b_lodgelaw12_OpMixes, 215, Go.Proofs.Tryd.f7.results.toList⟩) (by kernel_rfl) (ls := [l_lodgelaw12_OpMixes_0 N]) (.cons (by kernel_rfl) (g_lodgelaw12_OpMixes_0_ok S N N) (.nil)) (js := j_lodgelaw12_OpMixes) (by kernel_rfl) (ps := ps_lodgelaw12_OpMixes) (rs := rs_lodgelaw12_OpMixes) (Eq.trans (b := F_lodgelaw12_OpMixes N x.1) (by kernel_rfl) h)

/-! lodge/lodgeworld.Desc -/

abbrev ps_lodgeworld_Desc : List Ty := [(.st (.pair (.sl (.int .i64)) .bool))]
abbrev rs_lodgeworld_Desc : List Slot := [.data .bool]
abbrev cs_lodgeworld_Desc (N : Nat) : List CallSpec := []
noncomputable abbrev b_lodgeworld_Desc : Code := (Go.Proofs.Tryd.f10.body).getD .skip

def F_lodgeworld_Desc (N : Nat) (d_0 : (List Int × Bool)) : Option (Bool × Unit) :=
  some ((decide ((Nat.cast (List.length (d_0).1) : Int) ≤ (8 : Int))), ())

abbrev c_lodgeworld_Desc (N : Nat) : CallSpec := ⟨10, ps_lodgeworld_Desc, rs_lodgeworld_Desc, fun x => F_lodgeworld_Desc N x.1⟩

theorem cs_lodgeworld_Desc_ok (S : Nat → Addr) (N : Nat) : CallsOK Go.Proofs.Tryd.prog E S (cs_lodgeworld_Desc N) :=
  .nil
theorem F_lodgeworld_Desc_ok (S : Nat → Addr) (N : Nat) : ∀ x y, (c_lodgeworld_Desc N).g x = some y → FCon Go.Proofs.Tryd.prog E S 10 ps_lodgeworld_Desc rs_lodgeworld_Desc x y := by
  intro x y h
  exact fun_spec E_ok mixed (cs_lodgeworld_Desc_ok S N) (f := 10) (fi := ⟨b_lodgeworld_Desc, 7, Go.Proofs.Tryd.f10.results.toList⟩) (by kernel_rfl) (ls := []) (.nil) (by kernel_rfl) (ps := ps_lodgeworld_Desc) (rs := rs_lodgeworld_Desc) (Eq.trans (b := F_lodgeworld_Desc N x.1) (by kernel_rfl) h)

/-! lodge/lodgeworld.Tensor -/

abbrev ps_lodgeworld_Tensor : List Ty := [(.st (.pair (.st (.pair (.sl (.int .i64)) .bool)) (.sl (.int .i64)))), (.int .i64)]
abbrev rs_lodgeworld_Tensor : List Slot := [.data .bool]
abbrev cs_lodgeworld_Tensor (N : Nat) : List CallSpec := [c_lodgeworld_Desc N]
noncomputable abbrev b_lodgeworld_Tensor : Code := (Go.Proofs.Tryd.f84.body).getD .skip

def F_lodgeworld_Tensor (N : Nat) (t_0 : ((List Int × Bool) × List Int)) (most_1 : Int) : Option (Bool × Unit) :=
  Option.bind (F_lodgeworld_Desc N (t_0).1) fun y0 =>
  cond (y0).1
    (
    some ((decide ((Nat.cast (List.length (t_0).2) : Int) ≤ most_1)), ()))
    (
    some (false, ()))

abbrev c_lodgeworld_Tensor (N : Nat) : CallSpec := ⟨84, ps_lodgeworld_Tensor, rs_lodgeworld_Tensor, fun x => F_lodgeworld_Tensor N x.1 x.2.1⟩

theorem cs_lodgeworld_Tensor_ok (S : Nat → Addr) (N : Nat) : CallsOK Go.Proofs.Tryd.prog E S (cs_lodgeworld_Tensor N) :=
  .cons (F_lodgeworld_Desc_ok S N) (.nil)
theorem F_lodgeworld_Tensor_ok (S : Nat → Addr) (N : Nat) : ∀ x y, (c_lodgeworld_Tensor N).g x = some y → FCon Go.Proofs.Tryd.prog E S 84 ps_lodgeworld_Tensor rs_lodgeworld_Tensor x y := by
  intro x y h
  exact fun_spec E_ok mixed (cs_lodgeworld_Tensor_ok S N) (f := 84) (fi := ⟨b_lodgeworld_Tensor, 15, Go.Proofs.Tryd.f84.results.toList⟩) (by kernel_rfl) (ls := []) (.nil) (by kernel_rfl) (ps := ps_lodgeworld_Tensor) (rs := rs_lodgeworld_Tensor) (Eq.trans (b := F_lodgeworld_Tensor N x.1 x.2.1) (by kernel_rfl) h)

/-! lodge/lodgeworld.Tensors -/

abbrev ps_lodgeworld_Tensors : List Ty := [(.sl (.st (.pair (.st (.pair (.sl (.int .i64)) .bool)) (.sl (.int .i64))))), (.int .i64), (.int .i64)]
abbrev rs_lodgeworld_Tensors : List Slot := [.data .bool]
abbrev cs_lodgeworld_Tensors (N : Nat) : List CallSpec := [c_lodgeworld_Tensor N]
noncomputable abbrev b_lodgeworld_Tensors : Code := (Go.Proofs.Tryd.f58.body).getD .skip

abbrev h_lodgeworld_Tensors_0 : List Slot := [.data (.sl (.st (.pair (.st (.pair (.sl (.int .i64)) .bool)) (.sl (.int .i64))))), .dead, .data (.int .i64), .dead, .dead, .dead, .dead, .data (.int .i64), .dead, .dead, .dead, .dead, .dead, .dead, .dead, .dead, .dead, .dead, .dead, .dead, .dead, .dead, .dead, .dead, .dead]
abbrev e_lodgeworld_Tensors_0 : List (AX × List Slot) := [(AX.exit 0, [.dead, .dead, .dead, .dead, .dead, .dead, .dead, .dead, .dead, .dead, .dead, .dead, .dead, .dead, .dead, .dead, .dead, .dead, .dead, .dead, .dead, .dead, .dead, .dead, .dead]), (AX.ret, [.dead, .dead, .dead, .dead, .dead, .dead, .data .bool, .dead, .dead, .dead, .dead, .dead, .dead, .dead, .dead, .dead, .dead, .dead, .dead, .dead, .dead, .dead, .dead, .dead, .dead])]
def g_lodgeworld_Tensors_0 (N : Nat) : Nat → List (((List Int × Bool) × List Int)) → Int → Int → Option (Sum Unit (Bool × Unit))
  | 0, _, _, _ => none
  | n + 1, l_0, most_2, i_7 =>
    cond (decide (i_7 < (Nat.cast (List.length l_0) : Int)))
      (
      cond (decide ((0 : Int) ≤ i_7))
        (
        cond (decide ((Int.toNat i_7) < (List.length l_0)))
          (
          Option.bind (F_lodgeworld_Tensor N (List.getD l_0 (Int.toNat i_7) ((([] : List Int), false), ([] : List Int))) most_2) fun y1 =>
          cond (Bool.not (y1).1)
            (
            some (Sum.inr (false, ())))
            (
            (g_lodgeworld_Tensors_0 N n l_0 most_2 (wi64 (i_7 + (1 : Int))))))
          (
          none))
        (
        none))
      (
      some (Sum.inl ()))

def F_lodgeworld_Tensors (N : Nat) (l_0 : List (((List Int × Bool) × List Int))) (many_1 : Int) (most_2 : Int) : Option (Bool × Unit) :=
  cond (decide (many_1 < (Nat.cast (List.length l_0) : Int)))
    (
    some (false, ()))
    (
    Option.bind (g_lodgeworld_Tensors_0 N N l_0 most_2 (0 : Int)) fun y0 =>
    Sum.elim (fun y1 =>
      some (true, ()))
      (fun y2 =>
      some y2) y0)

abbrev c_lodgeworld_Tensors (N : Nat) : CallSpec := ⟨58, ps_lodgeworld_Tensors, rs_lodgeworld_Tensors, fun x => F_lodgeworld_Tensors N x.1 x.2.1 x.2.2.1⟩
abbrev l_lodgeworld_Tensors_0 (N : Nat) : LoopSpec := ⟨0, h_lodgeworld_Tensors_0, e_lodgeworld_Tensors_0, fun x => g_lodgeworld_Tensors_0 N N x.1 x.2.1 x.2.2.1⟩

theorem cs_lodgeworld_Tensors_ok (S : Nat → Addr) (N : Nat) : CallsOK Go.Proofs.Tryd.prog E S (cs_lodgeworld_Tensors N) :=
  .cons (F_lodgeworld_Tensor_ok S N) (.nil)
noncomputable abbrev b_lodgeworld_Tensors_0 : Code := (loopsOf b_lodgeworld_Tensors).getD 0 .skip
theorem g_lodgeworld_Tensors_0_ok (S : Nat → Addr) (N : Nat) : ∀ n x y, (fun (x : Val (slotsTy h_lodgeworld_Tensors_0)) => g_lodgeworld_Tensors_0 N n x.1 x.2.1 x.2.2.1) x = some y → LoopCon Go.Proofs.Tryd.prog E S b_lodgeworld_Tensors_0 (encSlots h_lodgeworld_Tensors_0 x) (encEx e_lodgeworld_Tensors_0 y).1 (encEx e_lodgeworld_Tensors_0 y).2 :=
  loop_spec E_ok mixed (cs_lodgeworld_Tensors_ok S N) (all := loopsOf b_lodgeworld_Tensors) (ls := []) (.nil) (i := 0) (by kernel_rfl) (inner_of (by kernel_rfl)) (head := h_lodgeworld_Tensors_0) (ex := e_lodgeworld_Tensors_0) (fun n (x : Val (slotsTy h_lodgeworld_Tensors_0)) => g_lodgeworld_Tensors_0 N n x.1 x.2.1 x.2.2.1) (fun _ => rfl) (fun n x => by kernel_rfl)
theorem F_lodgeworld_Tensors_ok (S : Nat → Addr) (N : Nat) : ∀ x y, (c_lodgeworld_Tensors N).g x = some y → FCon Go.Proofs.Tryd.prog E S 58 ps_lodgeworld_Tensors rs_lodgeworld_Tensors x y := by
  intro x y h
  exact fun_spec E_ok mixed (cs_lodgeworld_Tensors_ok S N) (f := 58) (fi := ⟨b_lodgeworld_Tensors, 25, Go.Proofs.Tryd.f58.results.toList⟩) (by kernel_rfl) (ls := [l_lodgeworld_Tensors_0 N]) (.cons (by kernel_rfl) (g_lodgeworld_Tensors_0_ok S N N) (.nil)) (by kernel_rfl) (ps := ps_lodgeworld_Tensors) (rs := rs_lodgeworld_Tensors) (Eq.trans (b := F_lodgeworld_Tensors N x.1 x.2.1 x.2.2.1) (by kernel_rfl) h)

/-! lodge/lodgeref3.Known -/

abbrev ps_lodgeref3_Known : List Ty := [(.int .i64)]
abbrev rs_lodgeref3_Known : List Slot := [.data .bool]
abbrev cs_lodgeref3_Known (N : Nat) : List CallSpec := []
noncomputable abbrev b_lodgeref3_Known : Code := (Go.Proofs.Tryd.f38.body).getD .skip

def F_lodgeref3_Known (N : Nat) (op_0 : Int) : Option (Bool × Unit) :=
  cond (decide ((4 : Int) ≤ op_0))
    (
    some ((decide (op_0 ≤ (21 : Int))), ()))
    (
    some (false, ()))

abbrev c_lodgeref3_Known (N : Nat) : CallSpec := ⟨38, ps_lodgeref3_Known, rs_lodgeref3_Known, fun x => F_lodgeref3_Known N x.1⟩

theorem cs_lodgeref3_Known_ok (S : Nat → Addr) (N : Nat) : CallsOK Go.Proofs.Tryd.prog E S (cs_lodgeref3_Known N) :=
  .nil
theorem F_lodgeref3_Known_ok (S : Nat → Addr) (N : Nat) : ∀ x y, (c_lodgeref3_Known N).g x = some y → FCon Go.Proofs.Tryd.prog E S 38 ps_lodgeref3_Known rs_lodgeref3_Known x y := by
  intro x y h
  exact fun_spec E_ok mixed (cs_lodgeref3_Known_ok S N) (f := 38) (fi := ⟨b_lodgeref3_Known, 9, Go.Proofs.Tryd.f38.results.toList⟩) (by kernel_rfl) (ls := []) (.nil) (by kernel_rfl) (ps := ps_lodgeref3_Known) (rs := rs_lodgeref3_Known) (Eq.trans (b := F_lodgeref3_Known N x.1) (by kernel_rfl) h)

/-! lodge/lodgeref3.ValidDesc -/

abbrev ps_lodgeref3_ValidDesc : List Ty := [(.st (.pair (.sl (.int .i64)) .bool))]
abbrev rs_lodgeref3_ValidDesc : List Slot := [.data (.int .i64)]
abbrev cs_lodgeref3_ValidDesc (N : Nat) : List CallSpec := []
noncomputable abbrev b_lodgeref3_ValidDesc : Code := (Go.Proofs.Tryd.f46.body).getD .skip

abbrev h_lodgeref3_ValidDesc_0 : List Slot := [.dead, .box [.d (.st (.pair (.sl (.int .i64)) .bool))], .dead, .data (.int .i64), .data (.int .i64), .dead, .dead, .dead, .dead, .dead, .dead, .dead, .dead, .dead, .dead, .dead, .dead, .dead, .dead, .dead, .dead, .dead, .dead, .dead, .dead, .dead, .dead, .dead, .dead, .dead, .dead, .dead, .dead, .dead, .dead, .dead, .dead, .dead, .dead]
abbrev e_lodgeref3_ValidDesc_0 : List (AX × List Slot) := [(AX.exit 0, [.dead, .dead, .dead, .data (.int .i64), .dead, .dead, .dead, .dead, .dead, .dead, .dead, .dead, .dead, .dead, .dead, .dead, .dead, .dead, .dead, .dead, .dead, .dead, .dead, .dead, .dead, .dead, .dead, .dead, .dead, .dead, .dead, .dead, .dead, .dead, .dead, .dead, .dead, .dead, .dead]), (AX.ret, [.dead, .dead, .data (.int .i64), .dead, .dead, .dead, .dead, .dead, .dead, .dead, .dead, .dead, .dead, .dead, .dead, .dead, .dead, .dead, .dead, .dead, .dead, .dead, .dead, .dead, .dead, .dead, .dead, .dead, .dead, .dead, .dead, .dead, .dead, .dead, .dead, .dead, .dead, .dead, .dead])]
def g_lodgeref3_ValidDesc_0 (N : Nat) : Nat → ((List Int × Bool) × Unit) → Int → Int → Option (Sum (Int × Unit) (Int × Unit))
  | 0, _, _, _ => none
  | n + 1, d_1, n_3, i_4 =>
    cond (decide (i_4 < (Nat.cast (List.length ((d_1).1).1) : Int)))
      (
      cond (decide ((0 : Int) ≤ i_4))
        (
        cond (decide ((Int.toNat i_4) < (List.length ((d_1).1).1)))
          (
          cond (decide ((List.getD ((d_1).1).1 (Int.toNat i_4) (0 : Int)) < (1 : Int)))
            (
            some (Sum.inr ((102 : Int), ())))
            (
            cond (decide ((0 : Int) ≤ i_4))
              (
              cond (decide ((Int.toNat i_4) < (List.length ((d_1).1).1)))
                (
                cond (decide ((256 : Int) < (List.getD ((d_1).1).1 (Int.toNat i_4) (0 : Int))))
                  (
                  some (Sum.inr ((102 : Int), ())))
                  (
                  cond (decide ((0 : Int) ≤ i_4))
                    (
                    cond (decide ((Int.toNat i_4) < (List.length ((d_1).1).1)))
                      (
                      (g_lodgeref3_ValidDesc_0 N n d_1 (wi64 (n_3 * (List.getD ((d_1).1).1 (Int.toNat i_4) (0 : Int)))) (wi64 (i_4 + (1 : Int)))))
                      (
                      none))
                    (
                    none)))
                (
                none))
              (
              none)))
          (
          none))
        (
        none))
      (
      some (Sum.inl (n_3, ())))

def F_lodgeref3_ValidDesc (N : Nat) (d_0 : (List Int × Bool)) : Option (Int × Unit) :=
  cond (decide ((4 : Int) < (Nat.cast (List.length (d_0).1) : Int)))
    (
    some ((104 : Int), ()))
    (
    Option.bind (g_lodgeref3_ValidDesc_0 N N (d_0, ()) (1 : Int) (0 : Int)) fun y0 =>
    Sum.elim (fun y1 =>
      cond (decide ((16384 : Int) < (y1).1))
        (
        some ((104 : Int), ()))
        (
        some ((0 : Int), ())))
      (fun y2 =>
      some y2) y0)

abbrev c_lodgeref3_ValidDesc (N : Nat) : CallSpec := ⟨46, ps_lodgeref3_ValidDesc, rs_lodgeref3_ValidDesc, fun x => F_lodgeref3_ValidDesc N x.1⟩
abbrev l_lodgeref3_ValidDesc_0 (N : Nat) : LoopSpec := ⟨0, h_lodgeref3_ValidDesc_0, e_lodgeref3_ValidDesc_0, fun x => g_lodgeref3_ValidDesc_0 N N x.1 x.2.1 x.2.2.1⟩

theorem cs_lodgeref3_ValidDesc_ok (S : Nat → Addr) (N : Nat) : CallsOK Go.Proofs.Tryd.prog E S (cs_lodgeref3_ValidDesc N) :=
  .nil
noncomputable abbrev b_lodgeref3_ValidDesc_0 : Code := (loopsOf b_lodgeref3_ValidDesc).getD 0 .skip
theorem g_lodgeref3_ValidDesc_0_ok (S : Nat → Addr) (N : Nat) : ∀ n x y, (fun (x : Val (slotsTy h_lodgeref3_ValidDesc_0)) => g_lodgeref3_ValidDesc_0 N n x.1 x.2.1 x.2.2.1) x = some y → LoopCon Go.Proofs.Tryd.prog E S b_lodgeref3_ValidDesc_0 (encSlots h_lodgeref3_ValidDesc_0 x) (encEx e_lodgeref3_ValidDesc_0 y).1 (encEx e_lodgeref3_ValidDesc_0 y).2 :=
  loop_spec E_ok mixed (cs_lodgeref3_ValidDesc_ok S N) (all := loopsOf b_lodgeref3_ValidDesc) (ls := []) (.nil) (i := 0) (by kernel_rfl) (inner_of (by kernel_rfl)) (head := h_lodgeref3_ValidDesc_0) (ex := e_lodgeref3_ValidDesc_0) (fun n (x : Val (slotsTy h_lodgeref3_ValidDesc_0)) => g_lodgeref3_ValidDesc_0 N n x.1 x.2.1 x.2.2.1) (fun _ => rfl) (fun n x => by kernel_rfl)
theorem F_lodgeref3_ValidDesc_ok (S : Nat → Addr) (N : Nat) : ∀ x y, (c_lodgeref3_ValidDesc N).g x = some y → FCon Go.Proofs.Tryd.prog E S 46 ps_lodgeref3_ValidDesc rs_lodgeref3_ValidDesc x y := by
  intro x y h
  exact fun_spec E_ok mixed (cs_lodgeref3_ValidDesc_ok S N) (f := 46) (fi := ⟨b_lodgeref3_ValidDesc, 39, Go.Proofs.Tryd.f46.results.toList⟩) (by kernel_rfl) (ls := [l_lodgeref3_ValidDesc_0 N]) (.cons (by kernel_rfl) (g_lodgeref3_ValidDesc_0_ok S N N) (.nil)) (by kernel_rfl) (ps := ps_lodgeref3_ValidDesc) (rs := rs_lodgeref3_ValidDesc) (Eq.trans (b := F_lodgeref3_ValidDesc N x.1) (by kernel_rfl) h)


end Go.Proofs.YtnblnlanicpagaaDoor.Lg
