/-
  The functions of the seat's program, as plain functions.
-/
import Derived.Test.YtmbcbocnncfpbaaDoorLgElemBFd
namespace Go.Proofs.YtmbcbocnncfpbaaDoor.Lg
open Go Go.Eng Go.Proofs
set_option maxRecDepth 100000

/-! lodge/lodgeref3.Apply -/

abbrev ps_lodgeref3_Apply : List Ty := [(.int .i64), (.sl (.int .i64)), (.sl (.st (.pair (.st (.pair (.sl (.int .i64)) .bool)) (.sl (.int .i64)))))]
abbrev rs_lodgeref3_Apply : List Slot := [.ag [.sl (.int .i64), .d .bool, .sl (.int .i64)], .data (.st (.pair (.int .i64) (.pair .bool (.int .i64))))]
abbrev cs_lodgeref3_Apply (N : Nat) : List CallSpec := [c_lodgeref_Bare N, c_lodgeref_None N, c_lodgeref3_Valid N, c_lodgeref3_descsOf N, c_lodgeref3_Result N, c_lodgeref3_Zero N, c_lodgeref3_element N]
noncomputable abbrev b_lodgeref3_Apply : Code := (Go.Proofs.Tryd.f22.body).getD .skip

abbrev h_lodgeref3_Apply_0 : List Slot := [.data (.int .i64), .data (.sl (.int .i64)), .data (.sl (.st (.pair (.st (.pair (.sl (.int .i64)) .bool)) (.sl (.int .i64))))), .dead, .dead, .dead, .box [.sl (.int .i64), .d .bool, .sl (.int .i64)], .box [.d (.st (.pair (.int .i64) (.pair .bool (.int .i64))))], .data (.int .i64), .dead, .dead, .dead, .dead, .dead, .dead, .dead, .dead, .dead, .dead, .dead, .dead, .dead, .dead, .dead, .dead, .dead, .dead, .dead, .dead, .dead, .dead, .dead, .dead, .dead, .dead, .dead, .dead, .dead, .dead, .dead, .dead, .dead, .dead, .dead, .dead, .dead, .dead, .dead, .dead, .dead, .dead, .dead, .dead, .dead, .dead, .dead, .dead, .dead, .dead, .dead, .dead, .dead, .dead, .dead]
abbrev e_lodgeref3_Apply_0 : List (AX × List Slot) := [(AX.exit 0, [.data (.int .i64), .data (.sl (.int .i64)), .data (.sl (.st (.pair (.st (.pair (.sl (.int .i64)) .bool)) (.sl (.int .i64))))), .dead, .dead, .dead, .box [.sl (.int .i64), .d .bool, .sl (.int .i64)], .box [.d (.st (.pair (.int .i64) (.pair .bool (.int .i64))))], .dead, .dead, .dead, .dead, .dead, .dead, .dead, .dead, .dead, .dead, .dead, .dead, .dead, .dead, .dead, .dead, .dead, .dead, .dead, .dead, .dead, .dead, .dead, .dead, .dead, .dead, .dead, .dead, .dead, .dead, .dead, .dead, .dead, .dead, .dead, .dead, .dead, .dead, .dead, .dead, .dead, .dead, .dead, .dead, .dead, .dead, .dead, .dead, .dead, .dead, .dead, .dead, .dead, .dead, .dead, .dead]), (AX.ret, [.dead, .dead, .dead, .dead, .dead, .dead, .box [.sl (.int .i64), .d .bool, .sl (.int .i64)], .box [.d (.st (.pair (.int .i64) (.pair .bool (.int .i64))))], .dead, .dead, .dead, .dead, .dead, .dead, .dead, .dead, .dead, .dead, .dead, .dead, .dead, .dead, .dead, .dead, .dead, .dead, .dead, .dead, .dead, .dead, .dead, .dead, .dead, .dead, .dead, .dead, .dead, .dead, .dead, .dead, .dead, .dead, .dead, .dead, .dead, .dead, .dead, .dead, .dead, .dead, .dead, .dead, .dead, .dead, .dead, .dead, .dead, .dead, .dead, .dead, .dead, .dead, .dead, .dead])]
def g_lodgeref3_Apply_0 (N : Nat) : Nat → Int → List Int → List (((List Int × Bool) × List Int)) → (List Int × (Bool × (List Int × Unit))) → ((Int × (Bool × Int)) × Unit) → Int → Option (Sum (Int × (List Int × (List (((List Int × Bool) × List Int)) × ((List Int × (Bool × (List Int × Unit))) × (((Int × (Bool × Int)) × Unit) × Unit))))) ((List Int × (Bool × (List Int × Unit))) × (((Int × (Bool × Int)) × Unit) × Unit)))
  | 0, _, _, _, _, _, _ => none
  | n + 1, op_0, args_1, ins_2, t_6, t_7, i_8 =>
    cond (decide (i_8 < (Nat.cast (List.length ins_2) : Int)))
      (
      cond (decide ((0 : Int) ≤ i_8))
        (
        cond (decide ((Int.toNat i_8) < (List.length ins_2)))
          (
          Option.bind (F_lodgeref3_Valid N (List.getD ins_2 (Int.toNat i_8) ((([] : List Int), false), ([] : List Int)))) fun y1 =>
          cond (decide (@Ne Int ((y1).1).1 (0 : Int)))
            (
            some (Sum.inr ((([] : List Int), (false, (([] : List Int), ()))), (y1, ()))))
            (
            cond (decide ((List.length (t_6).1) = (List.length (t_6).1)))
              (
              cond (decide ((List.length (((t_6).2).2).1) = (List.length (((t_6).2).2).1)))
                (
                (g_lodgeref3_Apply_0 N n op_0 args_1 ins_2 t_6 t_7 (wi64 (i_8 + (1 : Int)))))
                (
                none))
              (
              none)))
          (
          none))
        (
        none))
      (
      cond (decide ((List.length (t_6).1) = (List.length (t_6).1)))
        (
        cond (decide ((List.length (((t_6).2).2).1) = (List.length (((t_6).2).2).1)))
          (
          some (Sum.inl (op_0, (args_1, (ins_2, (t_6, (t_7, ())))))))
          (
          none))
        (
        none))

abbrev h_lodgeref3_Apply_1 : List Slot := [.data (.int .i64), .data (.sl (.int .i64)), .data (.sl (.st (.pair (.st (.pair (.sl (.int .i64)) .bool)) (.sl (.int .i64))))), .dead, .dead, .dead, .box [.sl (.int .i64), .d .bool, .sl (.int .i64)], .box [.d (.st (.pair (.int .i64) (.pair .bool (.int .i64))))], .dead, .dead, .box [.sl (.int .i64), .d .bool], .dead, .box [.sl (.int .i64), .d .bool, .sl (.int .i64)], .data (.int .i64), .dead, .dead, .dead, .dead, .dead, .dead, .dead, .dead, .dead, .dead, .dead, .dead, .dead, .dead, .dead, .dead, .dead, .dead, .dead, .dead, .dead, .dead, .dead, .dead, .dead, .dead, .dead, .dead, .dead, .dead, .dead, .dead, .dead, .dead, .dead, .dead, .dead, .dead, .dead, .dead, .dead, .dead, .dead, .dead, .dead, .dead, .dead, .dead, .dead, .dead]
abbrev e_lodgeref3_Apply_1 : List (AX × List Slot) := [(AX.exit 2, [.dead, .dead, .dead, .dead, .dead, .dead, .box [.sl (.int .i64), .d .bool, .sl (.int .i64)], .box [.d (.st (.pair (.int .i64) (.pair .bool (.int .i64))))], .dead, .dead, .dead, .dead, .box [.sl (.int .i64), .d .bool, .sl (.int .i64)], .dead, .dead, .dead, .dead, .dead, .dead, .dead, .dead, .dead, .dead, .dead, .dead, .dead, .dead, .dead, .dead, .dead, .dead, .dead, .dead, .dead, .dead, .dead, .dead, .dead, .dead, .dead, .dead, .dead, .dead, .dead, .dead, .dead, .dead, .dead, .dead, .dead, .dead, .dead, .dead, .dead, .dead, .dead, .dead, .dead, .dead, .dead, .dead, .dead, .dead, .dead])]
def g_lodgeref3_Apply_1 (N : Nat) : Nat → Int → List Int → List (((List Int × Bool) × List Int)) → (List Int × (Bool × (List Int × Unit))) → ((Int × (Bool × Int)) × Unit) → (List Int × (Bool × Unit)) → (List Int × (Bool × (List Int × Unit))) → Int → Option ((List Int × (Bool × (List Int × Unit))) × (((Int × (Bool × Int)) × Unit) × ((List Int × (Bool × (List Int × Unit))) × Unit)))
  | 0, _, _, _, _, _, _, _, _ => none
  | n + 1, op_0, args_1, ins_2, t_6, t_7, d_10, t_12, i_13 =>
    cond (decide (i_13 < (Nat.cast (List.length (((t_12).2).2).1) : Int)))
      (
      cond (decide (((0 : Nat) + (List.length (d_10).1)) ≤ (List.length (d_10).1)))
        (
        Option.bind (F_lodgeref3_element N op_0 args_1 i_13 ins_2 ((List.take (List.length (d_10).1) (d_10).1), ((d_10).2).1)) fun y8 =>
        cond (decide ((0 : Int) ≤ i_13))
          (
          cond (decide ((Int.toNat i_13) < (List.length (((t_12).2).2).1)))
            (
            cond (decide (((0 : Nat) + (Int.toNat i_13)) < (List.length (((t_12).2).2).1)))
              (
              cond (decide ((List.length (t_6).1) = (List.length (t_6).1)))
                (
                cond (decide ((List.length (((t_6).2).2).1) = (List.length (((t_6).2).2).1)))
                  (
                  cond (decide ((List.length (d_10).1) = (List.length (d_10).1)))
                    (
                    cond (decide ((List.length (t_12).1) = (List.length (t_12).1)))
                      (
                      cond (decide ((List.length (((t_12).2).2).1) = (List.length (List.set (((t_12).2).2).1 ((0 : Nat) + (Int.toNat i_13)) (y8).1))))
                        (
                        (g_lodgeref3_Apply_1 N n op_0 args_1 ins_2 t_6 t_7 d_10 ((t_12).1, (((t_12).2).1, ((List.set (((t_12).2).2).1 ((0 : Nat) + (Int.toNat i_13)) (y8).1), ()))) (wi64 (i_13 + (1 : Int)))))
                        (
                        none))
                      (
                      none))
                    (
                    none))
                  (
                  none))
                (
                none))
              (
              none))
            (
            none))
          (
          none))
        (
        none))
      (
      cond (decide ((List.length (t_6).1) = (List.length (t_6).1)))
        (
        cond (decide ((List.length (((t_6).2).2).1) = (List.length (((t_6).2).2).1)))
          (
          cond (decide ((List.length (t_12).1) = (List.length (t_12).1)))
            (
            cond (decide ((List.length (((t_12).2).2).1) = (List.length (((t_12).2).2).1)))
              (
              some (t_6, (t_7, (t_12, ()))))
              (
              none))
            (
            none))
          (
          none))
        (
        none))

def F_lodgeref3_Apply (N : Nat) (op_0 : Int) (args_1 : List Int) (ins_2 : List (((List Int × Bool) × List Int))) : Option ((List Int × (Bool × (List Int × Unit))) × ((Int × (Bool × Int)) × Unit)) :=
  Option.bind (g_lodgeref3_Apply_0 N N op_0 args_1 ins_2 (([] : List Int), (false, (([] : List Int), ()))) (((0 : Int), (false, (0 : Int))), ()) (0 : Int)) fun y0 =>
  Sum.elim (fun y1 =>
    Option.bind (F_lodgeref3_descsOf N (((y1).2).2).1) fun y2 =>
    cond (decide (((0 : Nat) + (List.length (y2).1)) ≤ (List.length (y2).1)))
      (
      Option.bind (F_lodgeref3_Result N (y1).1 ((y1).2).1 (List.take (List.length (y2).1) (y2).1)) fun y3 =>
      cond (decide (@Ne Int ((y3).2).1 (0 : Int)))
        (
        Option.bind (F_lodgeref_Bare N ((y3).2).1) fun y4 =>
        some ((([] : List Int), (false, (([] : List Int), ()))), y4))
        (
        cond (decide (((0 : Nat) + (List.length ((y3).1).1)) ≤ (List.length ((y3).1).1)))
          (
          Option.bind (F_lodgeref3_Zero N ((List.take (List.length ((y3).1).1) ((y3).1).1), (((y3).1).2).1)) fun y5 =>
          cond (decide ((List.length (((((y1).2).2).2).1).1) = (List.length (((((y1).2).2).2).1).1)))
            (
            cond (decide ((List.length (((((((y1).2).2).2).1).2).2).1) = (List.length (((((((y1).2).2).2).1).2).2).1)))
              (
              cond (decide ((List.length ((y3).1).1) = (List.length ((y3).1).1)))
                (
                cond (decide ((List.length ((y5).1).1) = (List.length ((y5).1).1)))
                  (
                  cond (decide ((List.length ((((y5).1).2).2).1) = (List.length ((((y5).1).2).2).1)))
                    (
                    Option.bind (g_lodgeref3_Apply_1 N N (y1).1 ((y1).2).1 (((y1).2).2).1 ((((y1).2).2).2).1 (((((y1).2).2).2).2).1 (y3).1 (y5).1 (0 : Int)) fun y6 =>
                    Option.bind (F_lodgeref_None N) fun y7 =>
                    cond (decide ((List.length ((((y6).2).2).1).1) = (List.length ((((y6).2).2).1).1)))
                      (
                      cond (decide ((List.length ((((((y6).2).2).1).2).2).1) = (List.length ((((((y6).2).2).1).2).2).1)))
                        (
                        some ((((y6).2).2).1, y7))
                        (
                        none))
                      (
                      none))
                    (
                    none))
                  (
                  none))
                (
                none))
              (
              none))
            (
            none))
          (
          none)))
      (
      none))
    (fun y8 =>
    cond (decide ((List.length ((y8).1).1) = (List.length ((y8).1).1)))
      (
      cond (decide ((List.length ((((y8).1).2).2).1) = (List.length ((((y8).1).2).2).1)))
        (
        some ((y8).1, ((y8).2).1))
        (
        none))
      (
      none)) y0

abbrev c_lodgeref3_Apply (N : Nat) : CallSpec := ⟨22, ps_lodgeref3_Apply, rs_lodgeref3_Apply, fun x => F_lodgeref3_Apply N x.1 x.2.1 x.2.2.1⟩
abbrev l_lodgeref3_Apply_1 (N : Nat) : LoopSpec := ⟨1, h_lodgeref3_Apply_1, e_lodgeref3_Apply_1, fun x => g_lodgeref3_Apply_1 N N x.1 x.2.1 x.2.2.1 x.2.2.2.1 x.2.2.2.2.1 x.2.2.2.2.2.1 x.2.2.2.2.2.2.1 x.2.2.2.2.2.2.2.1⟩
abbrev l_lodgeref3_Apply_0 (N : Nat) : LoopSpec := ⟨0, h_lodgeref3_Apply_0, e_lodgeref3_Apply_0, fun x => g_lodgeref3_Apply_0 N N x.1 x.2.1 x.2.2.1 x.2.2.2.1 x.2.2.2.2.1 x.2.2.2.2.2.1⟩

theorem cs_lodgeref3_Apply_ok (S : Nat → Addr) (N : Nat) : CallsOK Go.Proofs.Tryd.prog E S (cs_lodgeref3_Apply N) :=
  .cons (F_lodgeref_Bare_ok S N) (.cons (F_lodgeref_None_ok S N) (.cons (F_lodgeref3_Valid_ok S N) (.cons (F_lodgeref3_descsOf_ok S N) (.cons (F_lodgeref3_Result_ok S N) (.cons (F_lodgeref3_Zero_ok S N) (.cons (F_lodgeref3_element_ok S N) (.nil)))))))
noncomputable abbrev b_lodgeref3_Apply_1 : Code := (loopsOf b_lodgeref3_Apply).getD 1 .skip
theorem g_lodgeref3_Apply_1_ok (S : Nat → Addr) (N : Nat) : ∀ n x y, (fun (x : Val (slotsTy h_lodgeref3_Apply_1)) => g_lodgeref3_Apply_1 N n x.1 x.2.1 x.2.2.1 x.2.2.2.1 x.2.2.2.2.1 x.2.2.2.2.2.1 x.2.2.2.2.2.2.1 x.2.2.2.2.2.2.2.1) x = some y → LoopCon Go.Proofs.Tryd.prog E S b_lodgeref3_Apply_1 (encSlots h_lodgeref3_Apply_1 x) (encEx e_lodgeref3_Apply_1 y).1 (encEx e_lodgeref3_Apply_1 y).2 :=
  loop_spec E_ok mixed (cs_lodgeref3_Apply_ok S N) (all := loopsOf b_lodgeref3_Apply) (ls := []) (.nil) (i := 1) (by kernel_rfl) (inner_of (by kernel_rfl)) (head := h_lodgeref3_Apply_1) (ex := e_lodgeref3_Apply_1) (fun n (x : Val (slotsTy h_lodgeref3_Apply_1)) => g_lodgeref3_Apply_1 N n x.1 x.2.1 x.2.2.1 x.2.2.2.1 x.2.2.2.2.1 x.2.2.2.2.2.1 x.2.2.2.2.2.2.1 x.2.2.2.2.2.2.2.1) (fun _ => rfl) (fun n x => by kernel_rfl)
noncomputable abbrev b_lodgeref3_Apply_0 : Code := (loopsOf b_lodgeref3_Apply).getD 0 .skip
theorem g_lodgeref3_Apply_0_ok (S : Nat → Addr) (N : Nat) : ∀ n x y, (fun (x : Val (slotsTy h_lodgeref3_Apply_0)) => g_lodgeref3_Apply_0 N n x.1 x.2.1 x.2.2.1 x.2.2.2.1 x.2.2.2.2.1 x.2.2.2.2.2.1) x = some y → LoopCon Go.Proofs.Tryd.prog E S b_lodgeref3_Apply_0 (encSlots h_lodgeref3_Apply_0 x) (encEx e_lodgeref3_Apply_0 y).1 (encEx e_lodgeref3_Apply_0 y).2 :=
  loop_spec E_ok mixed (cs_lodgeref3_Apply_ok S N) (all := loopsOf b_lodgeref3_Apply) (ls := []) (.nil) (i := 0) (by kernel_rfl) (inner_of (by kernel_rfl)) (head := h_lodgeref3_Apply_0) (ex := e_lodgeref3_Apply_0) (fun n (x : Val (slotsTy h_lodgeref3_Apply_0)) => g_lodgeref3_Apply_0 N n x.1 x.2.1 x.2.2.1 x.2.2.2.1 x.2.2.2.2.1 x.2.2.2.2.2.1) (fun _ => rfl) (fun n x => by kernel_rfl)
theorem F_lodgeref3_Apply_ok (S : Nat → Addr) (N : Nat) : ∀ x y, (c_lodgeref3_Apply N).g x = some y → FCon Go.Proofs.Tryd.prog E S 22 ps_lodgeref3_Apply rs_lodgeref3_Apply x y := by
  intro x y h
  exact fun_spec E_ok mixed (cs_lodgeref3_Apply_ok S N) (f := 22) (fi := ⟨b_lodgeref3_Apply, 64, Go.Proofs.Tryd.f22.results.toList⟩) (by kernel_rfl) (ls := [l_lodgeref3_Apply_1 N, l_lodgeref3_Apply_0 N]) (.cons (by kernel_rfl) (g_lodgeref3_Apply_1_ok S N N) (.cons (by kernel_rfl) (g_lodgeref3_Apply_0_ok S N N) (.nil))) (by kernel_rfl) (ps := ps_lodgeref3_Apply) (rs := rs_lodgeref3_Apply) (Eq.trans (b := F_lodgeref3_Apply N x.1 x.2.1 x.2.2.1) (by kernel_rfl) h)

/-! lodge/lodgeref.SameTensor -/

abbrev ps_lodgeref_SameTensor : List Ty := [(.st (.pair (.st (.pair (.sl (.int .i64)) .bool)) (.sl (.int .i64)))), (.st (.pair (.st (.pair (.sl (.int .i64)) .bool)) (.sl (.int .i64))))]
abbrev rs_lodgeref_SameTensor : List Slot := [.data .bool]
abbrev cs_lodgeref_SameTensor (N : Nat) : List CallSpec := [c_lodgeref_SameInts N, c_lodgeref_SameDesc N]
noncomputable abbrev b_lodgeref_SameTensor : Code := (Go.Proofs.Tryd.f25.body).getD .skip

def F_lodgeref_SameTensor (N : Nat) (a_0 : ((List Int × Bool) × List Int)) (b_1 : ((List Int × Bool) × List Int)) : Option (Bool × Unit) :=
  Option.bind (F_lodgeref_SameDesc N (a_0).1 (b_1).1) fun y0 =>
  Option.bind (F_lodgeref_SameInts N (a_0).2 (b_1).2) fun y1 =>
  cond (y0).1
    (
    some y1)
    (
    some (false, ()))

abbrev c_lodgeref_SameTensor (N : Nat) : CallSpec := ⟨25, ps_lodgeref_SameTensor, rs_lodgeref_SameTensor, fun x => F_lodgeref_SameTensor N x.1 x.2.1⟩

theorem cs_lodgeref_SameTensor_ok (S : Nat → Addr) (N : Nat) : CallsOK Go.Proofs.Tryd.prog E S (cs_lodgeref_SameTensor N) :=
  .cons (F_lodgeref_SameInts_ok S N) (.cons (F_lodgeref_SameDesc_ok S N) (.nil))
theorem F_lodgeref_SameTensor_ok (S : Nat → Addr) (N : Nat) : ∀ x y, (c_lodgeref_SameTensor N).g x = some y → FCon Go.Proofs.Tryd.prog E S 25 ps_lodgeref_SameTensor rs_lodgeref_SameTensor x y := by
  intro x y h
  exact fun_spec E_ok mixed (cs_lodgeref_SameTensor_ok S N) (f := 25) (fi := ⟨b_lodgeref_SameTensor, 21, Go.Proofs.Tryd.f25.results.toList⟩) (by kernel_rfl) (ls := []) (.nil) (by kernel_rfl) (ps := ps_lodgeref_SameTensor) (rs := rs_lodgeref_SameTensor) (Eq.trans (b := F_lodgeref_SameTensor N x.1 x.2.1) (by kernel_rfl) h)

/-! lodge/lodgelaw7.ElemSays -/

abbrev ps_lodgelaw7_ElemSays : List Ty := [(.int .i64), (.st (.pair (.st (.pair (.sl (.int .i64)) .bool)) (.sl (.int .i64)))), (.st (.pair (.st (.pair (.sl (.int .i64)) .bool)) (.sl (.int .i64)))), (.sl (.int .i64))]
abbrev rs_lodgelaw7_ElemSays : List Slot := [.data .bool]
abbrev cs_lodgelaw7_ElemSays (N : Nat) : List CallSpec := [c_elem_Two N, c_lodgelaw7_first N, c_lodgesee_Same N, c_lodgesee_Is N, c_lodgeworld_Tensor N, c_elem_One N, c_lodgeref3_Valid N, c_lodgeref3_Apply N, c_lodgeref_SameTensor N]
noncomputable abbrev b_lodgelaw7_ElemSays : Code := (Go.Proofs.Tryd.f5.body).getD .skip

abbrev j_lodgelaw7_ElemSays : Joins := [(20, [(AX.normal, [.dead, .dead, .dead, .dead, .dead, .dead, .dead, .dead, .dead, .dead, .dead, .data .err, .dead, .dead, .dead, .dead, .dead, .dead, .dead, .box [.d (.st (.pair (.int .i64) (.pair .bool (.int .i64))))], .dead, .dead, .dead, .dead, .dead, .dead, .dead, .dead, .dead, .dead, .dead, .dead, .dead, .dead, .dead, .dead, .dead, .dead, .dead, .dead, .dead, .dead, .dead, .dead, .dead, .dead, .dead, .dead, .dead, .dead, .dead, .dead, .dead, .dead, .dead, .dead, .dead, .dead, .dead, .dead, .dead, .dead, .dead, .dead, .dead, .dead, .dead, .dead, .dead, .dead, .dead, .dead, .dead, .dead, .dead, .dead, .dead, .dead, .dead, .dead, .dead, .dead, .dead, .dead, .dead, .dead, .dead, .dead, .dead, .dead, .dead, .dead, .dead, .dead, .dead, .dead, .dead, .dead, .dead, .dead, .dead, .dead, .dead, .dead, .dead, .dead, .data .bool, .dead, .dead, .dead, .dead, .dead, .dead, .dead, .dead, .dead, .dead, .dead, .dead, .dead, .dead, .dead, .dead, .dead, .dead, .dead, .dead, .dead, .dead, .dead, .dead, .dead, .dead, .dead, .dead, .dead, .dead])]),
  (13, [(AX.normal, [.dead, .dead, .dead, .dead, .dead, .box [.d (.st (.pair (.st (.pair (.sl (.int .i64)) .bool)) (.sl (.int .i64))))], .box [.d (.st (.pair (.st (.pair (.sl (.int .i64)) .bool)) (.sl (.int .i64))))], .dead, .dead, .dead, .box [.sl (.int .i64), .d .bool, .sl (.int .i64)], .data .err, .box [.sl (.int .i64), .d .bool, .sl (.int .i64)], .data .err, .box [.sl (.int .i64), .d .bool, .sl (.int .i64)], .box [.d (.st (.pair (.int .i64) (.pair .bool (.int .i64))))], .box [.sl (.int .i64), .d .bool, .sl (.int .i64)], .box [.d (.st (.pair (.int .i64) (.pair .bool (.int .i64))))], .dead, .dead, .dead, .dead, .dead, .dead, .dead, .dead, .dead, .dead, .dead, .dead, .dead, .dead, .dead, .dead, .dead, .dead, .dead, .dead, .dead, .dead, .dead, .dead, .dead, .dead, .dead, .dead, .dead, .dead, .dead, .dead, .dead, .dead, .dead, .dead, .dead, .dead, .dead, .dead, .dead, .dead, .dead, .dead, .dead, .dead, .dead, .dead, .dead, .dead, .dead, .dead, .dead, .dead, .dead, .dead, .dead, .dead, .data .bool, .dead, .dead, .dead, .dead, .dead, .dead, .dead, .dead, .dead, .dead, .dead, .dead, .dead, .dead, .dead, .dead, .dead, .dead, .dead, .dead, .dead, .dead, .dead, .dead, .dead, .dead, .dead, .dead, .dead, .dead, .dead, .dead, .dead, .dead, .dead, .dead, .dead, .dead, .dead, .dead, .dead, .dead, .dead, .dead, .dead, .dead, .dead, .dead, .dead, .dead, .dead, .dead, .dead, .dead, .dead, .dead, .dead, .dead, .dead, .dead])]),
  (6, [(AX.normal, [.data (.int .i64), .dead, .dead, .data (.sl (.int .i64)), .dead, .box [.d (.st (.pair (.st (.pair (.sl (.int .i64)) .bool)) (.sl (.int .i64))))], .box [.d (.st (.pair (.st (.pair (.sl (.int .i64)) .bool)) (.sl (.int .i64))))], .dead, .dead, .data .bool, .dead, .dead, .dead, .dead, .dead, .dead, .dead, .dead, .dead, .dead, .dead, .dead, .dead, .dead, .dead, .dead, .dead, .dead, .dead, .dead, .dead, .dead, .dead, .dead, .dead, .dead, .dead, .dead, .dead, .data .bool, .dead, .dead, .dead, .dead, .dead, .dead, .dead, .dead, .dead, .dead, .dead, .dead, .dead, .dead, .dead, .dead, .dead, .dead, .dead, .dead, .dead, .dead, .dead, .dead, .dead, .dead, .dead, .dead, .dead, .dead, .dead, .dead, .dead, .dead, .dead, .dead, .dead, .dead, .dead, .dead, .dead, .dead, .dead, .dead, .dead, .dead, .dead, .dead, .dead, .dead, .dead, .dead, .dead, .dead, .dead, .dead, .dead, .dead, .dead, .dead, .dead, .dead, .dead, .dead, .dead, .dead, .dead, .dead, .dead, .dead, .dead, .dead, .dead, .dead, .dead, .dead, .dead, .dead, .dead, .dead, .dead, .dead, .dead, .dead, .dead, .dead, .dead, .dead, .dead, .dead, .dead, .dead, .dead, .dead, .dead, .dead, .dead])])]
def F_lodgelaw7_ElemSays (N : Nat) (op_0 : Int) (a_1 : ((List Int × Bool) × List Int)) (b_2 : ((List Int × Bool) × List Int)) (args_3 : List Int) : Option (Bool × Unit) :=
  Option.bind (F_lodgelaw7_first N) fun y0 =>
  cond (Bool.not (y0).1)
    (
    some (false, ()))
    (
    Option.bind (
        Option.bind (F_lodgeworld_Tensor N a_1 (300 : Int)) fun y1 =>
        cond (Bool.not (y1).1)
          (
          some (op_0, (args_3, ((a_1, ()), ((b_2, ()), ((y0).1, (true, ())))))))
          (
          Option.bind (F_lodgeworld_Tensor N b_2 (300 : Int)) fun y2 =>
          cond (Bool.not (y2).1)
            (
            some (op_0, (args_3, ((a_1, ()), ((b_2, ()), ((y0).1, (true, ())))))))
            (
            cond (decide ((10 : Int) < (Nat.cast (List.length args_3) : Int)))
              (
              some (op_0, (args_3, ((a_1, ()), ((b_2, ()), ((y0).1, (true, ())))))))
              (
              some (op_0, (args_3, ((a_1, ()), ((b_2, ()), ((y0).1, ((Bool.not (y0).1), ())))))))))) fun y3 =>
    cond ((((((y3).2).2).2).2).2).1
      (
      some ((((((y3).2).2).2).2).1, ()))
      (
      Option.bind (F_elem_Two N (y3).1 ((((y3).2).2).1).1 (((((y3).2).2).2).1).1) fun y4 =>
      Option.bind (F_elem_One N (y3).1 ((((y3).2).2).1).1 ((y3).2).1) fun y5 =>
      Option.bind (F_lodgeref3_Apply N (y3).1 ([] : List Int) (((((y3).2).2).1).1 :: ((((((y3).2).2).2).1).1 :: ([] : List (((List Int) × Bool) × (List Int)))))) fun y6 =>
      Option.bind (F_lodgeref3_Apply N (y3).1 ((y3).2).1 (((((y3).2).2).1).1 :: ([] : List (((List Int) × Bool) × (List Int))))) fun y7 =>
      Option.bind (
          cond (decide ((y3).1 < (4 : Int)))
            (
            cond (decide ((List.length ((y4).1).1) = (List.length ((y4).1).1)))
              (
              cond (decide ((List.length ((((y4).1).2).2).1) = (List.length ((((y4).1).2).2).1)))
                (
                cond (decide ((List.length ((y5).1).1) = (List.length ((y5).1).1)))
                  (
                  cond (decide ((List.length ((((y5).1).2).2).1) = (List.length ((((y5).1).2).2).1)))
                    (
                    cond (decide ((List.length ((y6).1).1) = (List.length ((y6).1).1)))
                      (
                      cond (decide ((List.length ((((y6).1).2).2).1) = (List.length ((((y6).1).2).2).1)))
                        (
                        cond (decide ((List.length ((y7).1).1) = (List.length ((y7).1).1)))
                          (
                          cond (decide ((List.length ((((y7).1).2).2).1) = (List.length ((((y7).1).2).2).1)))
                            (
                            some ((((y3).2).2).1, (((((y3).2).2).2).1, ((y4).1, (((y4).2).1, ((y5).1, (((y5).2).1, ((y6).1, ((y6).2, ((y7).1, ((y7).2, (true, ()))))))))))))
                            (
                            none))
                          (
                          none))
                        (
                        none))
                      (
                      none))
                    (
                    none))
                  (
                  none))
                (
                none))
              (
              none))
            (
            cond (decide ((List.length ((y4).1).1) = (List.length ((y4).1).1)))
              (
              cond (decide ((List.length ((((y4).1).2).2).1) = (List.length ((((y4).1).2).2).1)))
                (
                cond (decide ((List.length ((y5).1).1) = (List.length ((y5).1).1)))
                  (
                  cond (decide ((List.length ((((y5).1).2).2).1) = (List.length ((((y5).1).2).2).1)))
                    (
                    cond (decide ((List.length ((y6).1).1) = (List.length ((y6).1).1)))
                      (
                      cond (decide ((List.length ((((y6).1).2).2).1) = (List.length ((((y6).1).2).2).1)))
                        (
                        cond (decide ((List.length ((y7).1).1) = (List.length ((y7).1).1)))
                          (
                          cond (decide ((List.length ((((y7).1).2).2).1) = (List.length ((((y7).1).2).2).1)))
                            (
                            some ((((y3).2).2).1, (((((y3).2).2).2).1, ((y4).1, (((y4).2).1, ((y5).1, (((y5).2).1, ((y6).1, ((y6).2, ((y7).1, ((y7).2, ((decide ((11 : Int) < (y3).1)), ()))))))))))))
                            (
                            none))
                          (
                          none))
                        (
                        none))
                      (
                      none))
                    (
                    none))
                  (
                  none))
                (
                none))
              (
              none))) fun y8 =>
      cond (((((((((((y8).2).2).2).2).2).2).2).2).2).2).1
        (
        Option.bind (F_lodgeref3_Valid N ((y8).1).1) fun y9 =>
        Option.bind (F_lodgeref3_Valid N (((y8).2).1).1) fun y10 =>
        cond (decide (@Ne Int ((y9).1).1 (0 : Int)))
          (
          Option.bind (F_lodgesee_Same N ((((y8).2).2).2).1 (y9).1) fun y11 =>
          cond (y11).1
            (
            Option.bind (F_lodgesee_Same N ((((((y8).2).2).2).2).2).1 (y9).1) fun y12 =>
            some y12)
            (
            some (false, ())))
          (
          Option.bind (
              Option.bind (F_lodgesee_Is N ((((((y8).2).2).2).2).2).1 (103 : Int)) fun y13 =>
              cond (Bool.not (y13).1)
                (
                some (((((y8).2).2).2).1, (y10, (true, ()))))
                (
                cond (decide (@Ne Int (Nat.cast (List.length ((((((((y8).2).2).2).2).1).2).2).1) : Int) (0 : Int)))
                  (
                  some (((((y8).2).2).2).1, (y10, (true, ()))))
                  (
                  some (((((y8).2).2).2).1, (y10, ((decide (@Ne Int (Nat.cast (List.length ((((((y8).2).2).1).2).2).1) : Int) (0 : Int))), ())))))) fun y14 =>
          cond (((y14).2).2).1
            (
            some (false, ()))
            (
            cond (decide (@Ne Int ((((y14).2).1).1).1 (0 : Int)))
              (
              Option.bind (F_lodgesee_Same N (y14).1 (((y14).2).1).1) fun y15 =>
              cond (y15).1
                (
                some (true, ()))
                (
                Option.bind (F_lodgesee_Is N (y14).1 (103 : Int)) fun y16 =>
                some y16))
              (
              Option.bind (F_lodgesee_Is N (y14).1 (103 : Int)) fun y17 =>
              some y17))))
        (
        Option.bind (F_lodgesee_Same N ((((y8).2).2).2).1 (((((((((y8).2).2).2).2).2).2).2).1).1) fun y18 =>
        cond (y18).1
          (
          cond (decide (((0 : Nat) + (List.length ((((y8).2).2).1).1)) ≤ (List.length ((((y8).2).2).1).1)))
            (
            cond (decide (((0 : Nat) + (List.length ((((((y8).2).2).1).2).2).1)) ≤ (List.length ((((((y8).2).2).1).2).2).1)))
              (
              cond (decide (((0 : Nat) + (List.length ((((((((y8).2).2).2).2).2).2).1).1)) ≤ (List.length ((((((((y8).2).2).2).2).2).2).1).1)))
                (
                cond (decide (((0 : Nat) + (List.length ((((((((((y8).2).2).2).2).2).2).1).2).2).1)) ≤ (List.length ((((((((((y8).2).2).2).2).2).2).1).2).2).1)))
                  (
                  Option.bind (F_lodgeref_SameTensor N (((List.take (List.length ((((y8).2).2).1).1) ((((y8).2).2).1).1), (((((y8).2).2).1).2).1), (List.take (List.length ((((((y8).2).2).1).2).2).1) ((((((y8).2).2).1).2).2).1)) (((List.take (List.length ((((((((y8).2).2).2).2).2).2).1).1) ((((((((y8).2).2).2).2).2).2).1).1), (((((((((y8).2).2).2).2).2).2).1).2).1), (List.take (List.length ((((((((((y8).2).2).2).2).2).2).1).2).2).1) ((((((((((y8).2).2).2).2).2).2).1).2).2).1))) fun y19 =>
                  cond (y19).1
                    (
                    Option.bind (F_lodgesee_Same N ((((((y8).2).2).2).2).2).1 (((((((((((y8).2).2).2).2).2).2).2).2).2).1).1) fun y20 =>
                    cond (y20).1
                      (
                      cond (decide (((0 : Nat) + (List.length ((((((y8).2).2).2).2).1).1)) ≤ (List.length ((((((y8).2).2).2).2).1).1)))
                        (
                        cond (decide (((0 : Nat) + (List.length ((((((((y8).2).2).2).2).1).2).2).1)) ≤ (List.length ((((((((y8).2).2).2).2).1).2).2).1)))
                          (
                          cond (decide (((0 : Nat) + (List.length ((((((((((y8).2).2).2).2).2).2).2).2).1).1)) ≤ (List.length ((((((((((y8).2).2).2).2).2).2).2).2).1).1)))
                            (
                            cond (decide (((0 : Nat) + (List.length ((((((((((((y8).2).2).2).2).2).2).2).2).1).2).2).1)) ≤ (List.length ((((((((((((y8).2).2).2).2).2).2).2).2).1).2).2).1)))
                              (
                              Option.bind (F_lodgeref_SameTensor N (((List.take (List.length ((((((y8).2).2).2).2).1).1) ((((((y8).2).2).2).2).1).1), (((((((y8).2).2).2).2).1).2).1), (List.take (List.length ((((((((y8).2).2).2).2).1).2).2).1) ((((((((y8).2).2).2).2).1).2).2).1)) (((List.take (List.length ((((((((((y8).2).2).2).2).2).2).2).2).1).1) ((((((((((y8).2).2).2).2).2).2).2).2).1).1), (((((((((((y8).2).2).2).2).2).2).2).2).1).2).1), (List.take (List.length ((((((((((((y8).2).2).2).2).2).2).2).2).1).2).2).1) ((((((((((((y8).2).2).2).2).2).2).2).2).1).2).2).1))) fun y21 =>
                              some y21)
                              (
                              none))
                            (
                            none))
                          (
                          none))
                        (
                        none))
                      (
                      some (false, ())))
                    (
                    some (false, ())))
                  (
                  none))
                (
                none))
              (
              none))
            (
            none))
          (
          some (false, ())))))

abbrev c_lodgelaw7_ElemSays (N : Nat) : CallSpec := ⟨5, ps_lodgelaw7_ElemSays, rs_lodgelaw7_ElemSays, fun x => F_lodgelaw7_ElemSays N x.1 x.2.1 x.2.2.1 x.2.2.2.1⟩

theorem cs_lodgelaw7_ElemSays_ok (S : Nat → Addr) (N : Nat) : CallsOK Go.Proofs.Tryd.prog E S (cs_lodgelaw7_ElemSays N) :=
  .cons (F_elem_Two_ok S N) (.cons (F_lodgelaw7_first_ok S N) (.cons (F_lodgesee_Same_ok S N) (.cons (F_lodgesee_Is_ok S N) (.cons (F_lodgeworld_Tensor_ok S N) (.cons (F_elem_One_ok S N) (.cons (F_lodgeref3_Valid_ok S N) (.cons (F_lodgeref3_Apply_ok S N) (.cons (F_lodgeref_SameTensor_ok S N) (.nil)))))))))
theorem F_lodgelaw7_ElemSays_ok (S : Nat → Addr) (N : Nat) : ∀ x y, (c_lodgelaw7_ElemSays N).g x = some y → FCon Go.Proofs.Tryd.prog E S 5 ps_lodgelaw7_ElemSays rs_lodgelaw7_ElemSays x y := by
  intro x y h
  exact fun_specJ E_ok mixed (cs_lodgelaw7_ElemSays_ok S N) (f := 5) (fi := ⟨b_lodgelaw7_ElemSays, 137, Go.Proofs.Tryd.f5.results.toList⟩) (by kernel_rfl) (ls := []) (.nil) (js := j_lodgelaw7_ElemSays) (by kernel_rfl) (ps := ps_lodgelaw7_ElemSays) (rs := rs_lodgelaw7_ElemSays) (Eq.trans (b := F_lodgelaw7_ElemSays N x.1 x.2.1 x.2.2.1 x.2.2.2.1) (by kernel_rfl) h)

end Go.Proofs.YtmbcbocnncfpbaaDoor.Lg
