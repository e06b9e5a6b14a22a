/-
  The functions of the seat's program, as plain functions.
-/
import Derived.Test.YtbpifndhkdbmhaaDoorLgConvBFd
namespace Go.Proofs.YtbpifndhkdbmhaaDoor.Lg
open Go Go.Eng Go.Proofs
set_option maxRecDepth 100000

/-! lodge/lodgeref3.Apply -/

abbrev ps_lodgeref3_Apply : List Ty := [(.int .i64), (.sl (.int .i64)), (.sl (.st (.pair (.st (.pair (.sl (.int .i64)) .bool)) (.sl (.int .i64)))))]
abbrev rs_lodgeref3_Apply : List Slot := [.ag [.sl (.int .i64), .d .bool, .sl (.int .i64)], .data (.st (.pair (.int .i64) (.pair .bool (.int .i64))))]
abbrev cs_lodgeref3_Apply (N : Nat) : List CallSpec := [c_lodgeref_Bare N, c_lodgeref_None N, c_lodgeref3_Valid N, c_lodgeref3_descsOf N, c_lodgeref3_Result N, c_lodgeref3_Zero N, c_lodgeref3_element N]
noncomputable abbrev b_lodgeref3_Apply : Code := (Go.Proofs.Tryd.f24.body).getD .skip

abbrev h_lodgeref3_Apply_0 : List Slot := [.data (.int .i64), .data (.sl (.int .i64)), .data (.sl (.st (.pair (.st (.pair (.sl (.int .i64)) .bool)) (.sl (.int .i64))))), .dead, .dead, .dead, .box [.sl (.int .i64), .d .bool, .sl (.int .i64)], .box [.d (.st (.pair (.int .i64) (.pair .bool (.int .i64))))], .data (.int .i64), .dead, .dead, .dead, .dead, .dead, .dead, .dead, .dead, .dead, .dead, .dead, .dead, .dead, .dead, .dead, .dead, .dead, .dead, .dead, .dead, .dead, .dead, .dead, .dead, .dead, .dead, .dead, .dead, .dead, .dead, .dead, .dead, .dead, .dead, .dead, .dead, .dead, .dead, .dead, .dead, .dead, .dead, .dead, .dead, .dead, .dead, .dead, .dead, .dead, .dead, .dead, .dead, .dead, .dead, .dead]
abbrev e_lodgeref3_Apply_0 : List (AX × List Slot) := [(AX.exit 0, [.data (.int .i64), .data (.sl (.int .i64)), .data (.sl (.st (.pair (.st (.pair (.sl (.int .i64)) .bool)) (.sl (.int .i64))))), .dead, .dead, .dead, .box [.sl (.int .i64), .d .bool, .sl (.int .i64)], .box [.d (.st (.pair (.int .i64) (.pair .bool (.int .i64))))], .dead, .dead, .dead, .dead, .dead, .dead, .dead, .dead, .dead, .dead, .dead, .dead, .dead, .dead, .dead, .dead, .dead, .dead, .dead, .dead, .dead, .dead, .dead, .dead, .dead, .dead, .dead, .dead, .dead, .dead, .dead, .dead, .dead, .dead, .dead, .dead, .dead, .dead, .dead, .dead, .dead, .dead, .dead, .dead, .dead, .dead, .dead, .dead, .dead, .dead, .dead, .dead, .dead, .dead, .dead, .dead]), (AX.ret, [.dead, .dead, .dead, .dead, .dead, .dead, .box [.sl (.int .i64), .d .bool, .sl (.int .i64)], .box [.d (.st (.pair (.int .i64) (.pair .bool (.int .i64))))], .dead, .dead, .dead, .dead, .dead, .dead, .dead, .dead, .dead, .dead, .dead, .dead, .dead, .dead, .dead, .dead, .dead, .dead, .dead, .dead, .dead, .dead, .dead, .dead, .dead, .dead, .dead, .dead, .dead, .dead, .dead, .dead, .dead, .dead, .dead, .dead, .dead, .dead, .dead, .dead, .dead, .dead, .dead, .dead, .dead, .dead, .dead, .dead, .dead, .dead, .dead, .dead, .dead, .dead, .dead, .dead])]
def g_lodgeref3_Apply_0 (N : Nat) : Nat → Int → List Int → List (((List Int × Bool) × List Int)) → (List Int × (Bool × (List Int × Unit))) → ((Int × (Bool × Int)) × Unit) → Int → Option (Sum (Int × (List Int × (List (((List Int × Bool) × List Int)) × ((List Int × (Bool × (List Int × Unit))) × (((Int × (Bool × Int)) × Unit) × Unit))))) ((List Int × (Bool × (List Int × Unit))) × (((Int × (Bool × Int)) × Unit) × Unit)))
  | 0, _, _, _, _, _, _ => none
  | n + 1, op_0, args_1, ins_2, t_6, t_7, i_8 =>
    cond (decide (i_8 < (Nat.cast (List.length ins_2) : Int)))
      (
      cond (decide ((0 : Int) ≤ i_8))
        (
        cond (decide ((Int.toNat i_8) < (List.length ins_2)))
          (
          Option.bind (F_lodgeref3_Valid N (List.getD ins_2 (Int.toNat i_8) ((([] : List Int), false), ([] : List Int)))) fun y1 =>
          cond (decide (@Ne Int ((y1).1).1 (0 : Int)))
            (
            some (Sum.inr ((([] : List Int), (false, (([] : List Int), ()))), (y1, ()))))
            (
            cond (decide ((List.length (t_6).1) = (List.length (t_6).1)))
              (
              cond (decide ((List.length (((t_6).2).2).1) = (List.length (((t_6).2).2).1)))
                (
                (g_lodgeref3_Apply_0 N n op_0 args_1 ins_2 t_6 t_7 (wi64 (i_8 + (1 : Int)))))
                (
                none))
              (
              none)))
          (
          none))
        (
        none))
      (
      cond (decide ((List.length (t_6).1) = (List.length (t_6).1)))
        (
        cond (decide ((List.length (((t_6).2).2).1) = (List.length (((t_6).2).2).1)))
          (
          some (Sum.inl (op_0, (args_1, (ins_2, (t_6, (t_7, ())))))))
          (
          none))
        (
        none))

abbrev h_lodgeref3_Apply_1 : List Slot := [.data (.int .i64), .data (.sl (.int .i64)), .data (.sl (.st (.pair (.st (.pair (.sl (.int .i64)) .bool)) (.sl (.int .i64))))), .dead, .dead, .dead, .box [.sl (.int .i64), .d .bool, .sl (.int .i64)], .box [.d (.st (.pair (.int .i64) (.pair .bool (.int .i64))))], .dead, .dead, .box [.sl (.int .i64), .d .bool], .dead, .box [.sl (.int .i64), .d .bool, .sl (.int .i64)], .data (.int .i64), .dead, .dead, .dead, .dead, .dead, .dead, .dead, .dead, .dead, .dead, .dead, .dead, .dead, .dead, .dead, .dead, .dead, .dead, .dead, .dead, .dead, .dead, .dead, .dead, .dead, .dead, .dead, .dead, .dead, .dead, .dead, .dead, .dead, .dead, .dead, .dead, .dead, .dead, .dead, .dead, .dead, .dead, .dead, .dead, .dead, .dead, .dead, .dead, .dead, .dead]
abbrev e_lodgeref3_Apply_1 : List (AX × List Slot) := [(AX.exit 2, [.dead, .dead, .dead, .dead, .dead, .dead, .box [.sl (.int .i64), .d .bool, .sl (.int .i64)], .box [.d (.st (.pair (.int .i64) (.pair .bool (.int .i64))))], .dead, .dead, .dead, .dead, .box [.sl (.int .i64), .d .bool, .sl (.int .i64)], .dead, .dead, .dead, .dead, .dead, .dead, .dead, .dead, .dead, .dead, .dead, .dead, .dead, .dead, .dead, .dead, .dead, .dead, .dead, .dead, .dead, .dead, .dead, .dead, .dead, .dead, .dead, .dead, .dead, .dead, .dead, .dead, .dead, .dead, .dead, .dead, .dead, .dead, .dead, .dead, .dead, .dead, .dead, .dead, .dead, .dead, .dead, .dead, .dead, .dead, .dead])]
def g_lodgeref3_Apply_1 (N : Nat) : Nat → Int → List Int → List (((List Int × Bool) × List Int)) → (List Int × (Bool × (List Int × Unit))) → ((Int × (Bool × Int)) × Unit) → (List Int × (Bool × Unit)) → (List Int × (Bool × (List Int × Unit))) → Int → Option ((List Int × (Bool × (List Int × Unit))) × (((Int × (Bool × Int)) × Unit) × ((List Int × (Bool × (List Int × Unit))) × Unit)))
  | 0, _, _, _, _, _, _, _, _ => none
  | n + 1, op_0, args_1, ins_2, t_6, t_7, d_10, t_12, i_13 =>
    cond (decide (i_13 < (Nat.cast (List.length (((t_12).2).2).1) : Int)))
      (
      cond (decide (((0 : Nat) + (List.length (d_10).1)) ≤ (List.length (d_10).1)))
        (
        Option.bind (F_lodgeref3_element N op_0 args_1 i_13 ins_2 ((List.take (List.length (d_10).1) (d_10).1), ((d_10).2).1)) fun y8 =>
        cond (decide ((0 : Int) ≤ i_13))
          (
          cond (decide ((Int.toNat i_13) < (List.length (((t_12).2).2).1)))
            (
            cond (decide (((0 : Nat) + (Int.toNat i_13)) < (List.length (((t_12).2).2).1)))
              (
              cond (decide ((List.length (t_6).1) = (List.length (t_6).1)))
                (
                cond (decide ((List.length (((t_6).2).2).1) = (List.length (((t_6).2).2).1)))
                  (
                  cond (decide ((List.length (d_10).1) = (List.length (d_10).1)))
                    (
                    cond (decide ((List.length (t_12).1) = (List.length (t_12).1)))
                      (
                      cond (decide ((List.length (((t_12).2).2).1) = (List.length (List.set (((t_12).2).2).1 ((0 : Nat) + (Int.toNat i_13)) (y8).1))))
                        (
                        (g_lodgeref3_Apply_1 N n op_0 args_1 ins_2 t_6 t_7 d_10 ((t_12).1, (((t_12).2).1, ((List.set (((t_12).2).2).1 ((0 : Nat) + (Int.toNat i_13)) (y8).1), ()))) (wi64 (i_13 + (1 : Int)))))
                        (
                        none))
                      (
                      none))
                    (
                    none))
                  (
                  none))
                (
                none))
              (
              none))
            (
            none))
          (
          none))
        (
        none))
      (
      cond (decide ((List.length (t_6).1) = (List.length (t_6).1)))
        (
        cond (decide ((List.length (((t_6).2).2).1) = (List.length (((t_6).2).2).1)))
          (
          cond (decide ((List.length (t_12).1) = (List.length (t_12).1)))
            (
            cond (decide ((List.length (((t_12).2).2).1) = (List.length (((t_12).2).2).1)))
              (
              some (t_6, (t_7, (t_12, ()))))
              (
              none))
            (
            none))
          (
          none))
        (
        none))

def F_lodgeref3_Apply (N : Nat) (op_0 : Int) (args_1 : List Int) (ins_2 : List (((List Int × Bool) × List Int))) : Option ((List Int × (Bool × (List Int × Unit))) × ((Int × (Bool × Int)) × Unit)) :=
  Option.bind (g_lodgeref3_Apply_0 N N op_0 args_1 ins_2 (([] : List Int), (false, (([] : List Int), ()))) (((0 : Int), (false, (0 : Int))), ()) (0 : Int)) fun y0 =>
  Sum.elim (fun y1 =>
    Option.bind (F_lodgeref3_descsOf N (((y1).2).2).1) fun y2 =>
    cond (decide (((0 : Nat) + (List.length (y2).1)) ≤ (List.length (y2).1)))
      (
      Option.bind (F_lodgeref3_Result N (y1).1 ((y1).2).1 (List.take (List.length (y2).1) (y2).1)) fun y3 =>
      cond (decide (@Ne Int ((y3).2).1 (0 : Int)))
        (
        Option.bind (F_lodgeref_Bare N ((y3).2).1) fun y4 =>
        some ((([] : List Int), (false, (([] : List Int), ()))), y4))
        (
        cond (decide (((0 : Nat) + (List.length ((y3).1).1)) ≤ (List.length ((y3).1).1)))
          (
          Option.bind (F_lodgeref3_Zero N ((List.take (List.length ((y3).1).1) ((y3).1).1), (((y3).1).2).1)) fun y5 =>
          cond (decide ((List.length (((((y1).2).2).2).1).1) = (List.length (((((y1).2).2).2).1).1)))
            (
            cond (decide ((List.length (((((((y1).2).2).2).1).2).2).1) = (List.length (((((((y1).2).2).2).1).2).2).1)))
              (
              cond (decide ((List.length ((y3).1).1) = (List.length ((y3).1).1)))
                (
                cond (decide ((List.length ((y5).1).1) = (List.length ((y5).1).1)))
                  (
                  cond (decide ((List.length ((((y5).1).2).2).1) = (List.length ((((y5).1).2).2).1)))
                    (
                    Option.bind (g_lodgeref3_Apply_1 N N (y1).1 ((y1).2).1 (((y1).2).2).1 ((((y1).2).2).2).1 (((((y1).2).2).2).2).1 (y3).1 (y5).1 (0 : Int)) fun y6 =>
                    Option.bind (F_lodgeref_None N) fun y7 =>
                    cond (decide ((List.length ((((y6).2).2).1).1) = (List.length ((((y6).2).2).1).1)))
                      (
                      cond (decide ((List.length ((((((y6).2).2).1).2).2).1) = (List.length ((((((y6).2).2).1).2).2).1)))
                        (
                        some ((((y6).2).2).1, y7))
                        (
                        none))
                      (
                      none))
                    (
                    none))
                  (
                  none))
                (
                none))
              (
              none))
            (
            none))
          (
          none)))
      (
      none))
    (fun y8 =>
    cond (decide ((List.length ((y8).1).1) = (List.length ((y8).1).1)))
      (
      cond (decide ((List.length ((((y8).1).2).2).1) = (List.length ((((y8).1).2).2).1)))
        (
        some ((y8).1, ((y8).2).1))
        (
        none))
      (
      none)) y0

abbrev c_lodgeref3_Apply (N : Nat) : CallSpec := ⟨24, ps_lodgeref3_Apply, rs_lodgeref3_Apply, fun x => F_lodgeref3_Apply N x.1 x.2.1 x.2.2.1⟩
abbrev l_lodgeref3_Apply_1 (N : Nat) : LoopSpec := ⟨1, h_lodgeref3_Apply_1, e_lodgeref3_Apply_1, fun x => g_lodgeref3_Apply_1 N N x.1 x.2.1 x.2.2.1 x.2.2.2.1 x.2.2.2.2.1 x.2.2.2.2.2.1 x.2.2.2.2.2.2.1 x.2.2.2.2.2.2.2.1⟩
abbrev l_lodgeref3_Apply_0 (N : Nat) : LoopSpec := ⟨0, h_lodgeref3_Apply_0, e_lodgeref3_Apply_0, fun x => g_lodgeref3_Apply_0 N N x.1 x.2.1 x.2.2.1 x.2.2.2.1 x.2.2.2.2.1 x.2.2.2.2.2.1⟩

theorem cs_lodgeref3_Apply_ok (S : Nat → Addr) (N : Nat) : CallsOK Go.Proofs.Tryd.prog E S (cs_lodgeref3_Apply N) :=
  .cons (F_lodgeref_Bare_ok S N) (.cons (F_lodgeref_None_ok S N) (.cons (F_lodgeref3_Valid_ok S N) (.cons (F_lodgeref3_descsOf_ok S N) (.cons (F_lodgeref3_Result_ok S N) (.cons (F_lodgeref3_Zero_ok S N) (.cons (F_lodgeref3_element_ok S N) (.nil)))))))
noncomputable abbrev b_lodgeref3_Apply_1 : Code := (loopsOf b_lodgeref3_Apply).getD 1 .skip
theorem g_lodgeref3_Apply_1_ok (S : Nat → Addr) (N : Nat) : ∀ n x y, (fun (x : Val (slotsTy h_lodgeref3_Apply_1)) => g_lodgeref3_Apply_1 N n x.1 x.2.1 x.2.2.1 x.2.2.2.1 x.2.2.2.2.1 x.2.2.2.2.2.1 x.2.2.2.2.2.2.1 x.2.2.2.2.2.2.2.1) x = some y → LoopCon Go.Proofs.Tryd.prog E S b_lodgeref3_Apply_1 (encSlots h_lodgeref3_Apply_1 x) (encEx e_lodgeref3_Apply_1 y).1 (encEx e_lodgeref3_Apply_1 y).2 :=
  loop_spec E_ok mixed (cs_lodgeref3_Apply_ok S N) (all := loopsOf b_lodgeref3_Apply) (ls := []) (.nil) (i := 1) (by kernel_rfl) (inner_of (by kernel_rfl)) (head := h_lodgeref3_Apply_1) (ex := e_lodgeref3_Apply_1) (fun n (x : Val (slotsTy h_lodgeref3_Apply_1)) => g_lodgeref3_Apply_1 N n x.1 x.2.1 x.2.2.1 x.2.2.2.1 x.2.2.2.2.1 x.2.2.2.2.2.1 x.2.2.2.2.2.2.1 x.2.2.2.2.2.2.2.1) (fun _ => rfl) (fun n x => by kernel_rfl)
noncomputable abbrev b_lodgeref3_Apply_0 : Code := (loopsOf b_lodgeref3_Apply).getD 0 .skip
theorem g_lodgeref3_Apply_0_ok (S : Nat → Addr) (N : Nat) : ∀ n x y, (fun (x : Val (slotsTy h_lodgeref3_Apply_0)) => g_lodgeref3_Apply_0 N n x.1 x.2.1 x.2.2.1 x.2.2.2.1 x.2.2.2.2.1 x.2.2.2.2.2.1) x = some y → LoopCon Go.Proofs.Tryd.prog E S b_lodgeref3_Apply_0 (encSlots h_lodgeref3_Apply_0 x) (encEx e_lodgeref3_Apply_0 y).1 (encEx e_lodgeref3_Apply_0 y).2 :=
  loop_spec E_ok mixed (cs_lodgeref3_Apply_ok S N) (all := loopsOf b_lodgeref3_Apply) (ls := []) (.nil) (i := 0) (by kernel_rfl) (inner_of (by kernel_rfl)) (head := h_lodgeref3_Apply_0) (ex := e_lodgeref3_Apply_0) (fun n (x : Val (slotsTy h_lodgeref3_Apply_0)) => g_lodgeref3_Apply_0 N n x.1 x.2.1 x.2.2.1 x.2.2.2.1 x.2.2.2.2.1 x.2.2.2.2.2.1) (fun _ => rfl) (fun n x => by kernel_rfl)
theorem F_lodgeref3_Apply_ok (S : Nat → Addr) (N : Nat) : ∀ x y, (c_lodgeref3_Apply N).g x = some y → FCon Go.Proofs.Tryd.prog E S 24 ps_lodgeref3_Apply rs_lodgeref3_Apply x y := by
  intro x y h
  exact fun_spec E_ok mixed (cs_lodgeref3_Apply_ok S N) (f := 24) (fi := ⟨b_lodgeref3_Apply, 64, Go.Proofs.Tryd.f24.results.toList⟩) (by kernel_rfl) (ls := [l_lodgeref3_Apply_1 N, l_lodgeref3_Apply_0 N]) (.cons (by kernel_rfl) (g_lodgeref3_Apply_1_ok S N N) (.cons (by kernel_rfl) (g_lodgeref3_Apply_0_ok S N N) (.nil))) (by kernel_rfl) (ps := ps_lodgeref3_Apply) (rs := rs_lodgeref3_Apply) (Eq.trans (b := F_lodgeref3_Apply N x.1 x.2.1 x.2.2.1) (by kernel_rfl) h)

/-! lodge/lodgeref.SameTensor -/

abbrev ps_lodgeref_SameTensor : List Ty := [(.st (.pair (.st (.pair (.sl (.int .i64)) .bool)) (.sl (.int .i64)))), (.st (.pair (.st (.pair (.sl (.int .i64)) .bool)) (.sl (.int .i64))))]
abbrev rs_lodgeref_SameTensor : List Slot := [.data .bool]
abbrev cs_lodgeref_SameTensor (N : Nat) : List CallSpec := [c_lodgeref_SameInts N, c_lodgeref_SameDesc N]
noncomputable abbrev b_lodgeref_SameTensor : Code := (Go.Proofs.Tryd.f25.body).getD .skip

def F_lodgeref_SameTensor (N : Nat) (a_0 : ((List Int × Bool) × List Int)) (b_1 : ((List Int × Bool) × List Int)) : Option (Bool × Unit) :=
  Option.bind (F_lodgeref_SameDesc N (a_0).1 (b_1).1) fun y0 =>
  Option.bind (F_lodgeref_SameInts N (a_0).2 (b_1).2) fun y1 =>
  cond (y0).1
    (
    some y1)
    (
    some (false, ()))

abbrev c_lodgeref_SameTensor (N : Nat) : CallSpec := ⟨25, ps_lodgeref_SameTensor, rs_lodgeref_SameTensor, fun x => F_lodgeref_SameTensor N x.1 x.2.1⟩

theorem cs_lodgeref_SameTensor_ok (S : Nat → Addr) (N : Nat) : CallsOK Go.Proofs.Tryd.prog E S (cs_lodgeref_SameTensor N) :=
  .cons (F_lodgeref_SameInts_ok S N) (.cons (F_lodgeref_SameDesc_ok S N) (.nil))
theorem F_lodgeref_SameTensor_ok (S : Nat → Addr) (N : Nat) : ∀ x y, (c_lodgeref_SameTensor N).g x = some y → FCon Go.Proofs.Tryd.prog E S 25 ps_lodgeref_SameTensor rs_lodgeref_SameTensor x y := by
  intro x y h
  exact fun_spec E_ok mixed (cs_lodgeref_SameTensor_ok S N) (f := 25) (fi := ⟨b_lodgeref_SameTensor, 21, Go.Proofs.Tryd.f25.results.toList⟩) (by kernel_rfl) (ls := []) (.nil) (by kernel_rfl) (ps := ps_lodgeref_SameTensor) (rs := rs_lodgeref_SameTensor) (Eq.trans (b := F_lodgeref_SameTensor N x.1 x.2.1) (by kernel_rfl) h)

/-! lodge/lodgeref3.Good -/

abbrev ps_lodgeref3_Good : List Ty := [(.st (.pair (.st (.pair (.sl (.int .i64)) .bool)) (.sl (.int .i64))))]
abbrev rs_lodgeref3_Good : List Slot := [.data .bool]
abbrev cs_lodgeref3_Good (N : Nat) : List CallSpec := [c_lodgeref3_Valid N]
noncomputable abbrev b_lodgeref3_Good : Code := (Go.Proofs.Tryd.f52.body).getD .skip

def F_lodgeref3_Good (N : Nat) (t_0 : ((List Int × Bool) × List Int)) : Option (Bool × Unit) :=
  Option.bind (F_lodgeref3_Valid N t_0) fun y0 =>
  some ((decide (((y0).1).1 = (0 : Int))), ())

abbrev c_lodgeref3_Good (N : Nat) : CallSpec := ⟨52, ps_lodgeref3_Good, rs_lodgeref3_Good, fun x => F_lodgeref3_Good N x.1⟩

theorem cs_lodgeref3_Good_ok (S : Nat → Addr) (N : Nat) : CallsOK Go.Proofs.Tryd.prog E S (cs_lodgeref3_Good N) :=
  .cons (F_lodgeref3_Valid_ok S N) (.nil)
theorem F_lodgeref3_Good_ok (S : Nat → Addr) (N : Nat) : ∀ x y, (c_lodgeref3_Good N).g x = some y → FCon Go.Proofs.Tryd.prog E S 52 ps_lodgeref3_Good rs_lodgeref3_Good x y := by
  intro x y h
  exact fun_spec E_ok mixed (cs_lodgeref3_Good_ok S N) (f := 52) (fi := ⟨b_lodgeref3_Good, 7, Go.Proofs.Tryd.f52.results.toList⟩) (by kernel_rfl) (ls := []) (.nil) (by kernel_rfl) (ps := ps_lodgeref3_Good) (rs := rs_lodgeref3_Good) (Eq.trans (b := F_lodgeref3_Good N x.1) (by kernel_rfl) h)

/-! lodge/lodgeref3.Element -/

abbrev ps_lodgeref3_Element : List Ty := [(.int .i64), (.sl (.int .i64)), (.int .i64), (.sl (.st (.pair (.st (.pair (.sl (.int .i64)) .bool)) (.sl (.int .i64)))))]
abbrev rs_lodgeref3_Element : List Slot := [.data (.int .i64)]
abbrev cs_lodgeref3_Element (N : Nat) : List CallSpec := [c_lodgeref3_Elems N, c_lodgeref3_descsOf N, c_lodgeref3_Result N, c_lodgeref3_element N, c_lodgeref3_Good N]
noncomputable abbrev b_lodgeref3_Element : Code := (Go.Proofs.Tryd.f26.body).getD .skip

abbrev h_lodgeref3_Element_0 : List Slot := [.data (.int .i64), .data (.sl (.int .i64)), .data (.int .i64), .data (.sl (.st (.pair (.st (.pair (.sl (.int .i64)) .bool)) (.sl (.int .i64))))), .dead, .dead, .dead, .dead, .dead, .data (.int .i64), .dead, .dead, .dead, .dead, .dead, .dead, .dead, .dead, .dead, .dead, .dead, .dead, .dead, .dead, .dead, .dead, .dead, .dead, .dead, .dead, .dead, .dead, .dead, .dead, .dead, .dead, .dead, .dead, .dead, .dead, .dead, .dead, .dead, .dead, .dead, .dead, .dead, .dead, .dead, .dead, .dead]
abbrev e_lodgeref3_Element_0 : List (AX × List Slot) := [(AX.exit 0, [.data (.int .i64), .data (.sl (.int .i64)), .data (.int .i64), .data (.sl (.st (.pair (.st (.pair (.sl (.int .i64)) .bool)) (.sl (.int .i64))))), .dead, .dead, .dead, .dead, .dead, .dead, .dead, .dead, .dead, .dead, .dead, .dead, .dead, .dead, .dead, .dead, .dead, .dead, .dead, .dead, .dead, .dead, .dead, .dead, .dead, .dead, .dead, .dead, .dead, .dead, .dead, .dead, .dead, .dead, .dead, .dead, .dead, .dead, .dead, .dead, .dead, .dead, .dead, .dead, .dead, .dead, .dead]), (AX.ret, [.dead, .dead, .dead, .dead, .dead, .dead, .dead, .dead, .data (.int .i64), .dead, .dead, .dead, .dead, .dead, .dead, .dead, .dead, .dead, .dead, .dead, .dead, .dead, .dead, .dead, .dead, .dead, .dead, .dead, .dead, .dead, .dead, .dead, .dead, .dead, .dead, .dead, .dead, .dead, .dead, .dead, .dead, .dead, .dead, .dead, .dead, .dead, .dead, .dead, .dead, .dead, .dead])]
def g_lodgeref3_Element_0 (N : Nat) : Nat → Int → List Int → Int → List (((List Int × Bool) × List Int)) → Int → Option (Sum (Int × (List Int × (Int × (List (((List Int × Bool) × List Int)) × Unit)))) (Int × Unit))
  | 0, _, _, _, _, _ => none
  | n + 1, op_0, args_1, i_2, ins_3, k_9 =>
    cond (decide (k_9 < (Nat.cast (List.length ins_3) : Int)))
      (
      cond (decide ((0 : Int) ≤ k_9))
        (
        cond (decide ((Int.toNat k_9) < (List.length ins_3)))
          (
          Option.bind (F_lodgeref3_Good N (List.getD ins_3 (Int.toNat k_9) ((([] : List Int), false), ([] : List Int)))) fun y1 =>
          cond (Bool.not (y1).1)
            (
            some (Sum.inr ((0 : Int), ())))
            (
            (g_lodgeref3_Element_0 N n op_0 args_1 i_2 ins_3 (wi64 (k_9 + (1 : Int))))))
          (
          none))
        (
        none))
      (
      some (Sum.inl (op_0, (args_1, (i_2, (ins_3, ()))))))

def F_lodgeref3_Element (N : Nat) (op_0 : Int) (args_1 : List Int) (i_2 : Int) (ins_3 : List (((List Int × Bool) × List Int))) : Option (Int × Unit) :=
  Option.bind (g_lodgeref3_Element_0 N N op_0 args_1 i_2 ins_3 (0 : Int)) fun y0 =>
  Sum.elim (fun y1 =>
    Option.bind (F_lodgeref3_descsOf N ((((y1).2).2).2).1) fun y2 =>
    cond (decide (((0 : Nat) + (List.length (y2).1)) ≤ (List.length (y2).1)))
      (
      Option.bind (F_lodgeref3_Result N (y1).1 ((y1).2).1 (List.take (List.length (y2).1) (y2).1)) fun y3 =>
      cond (decide (@Ne Int ((y3).2).1 (0 : Int)))
        (
        some ((0 : Int), ()))
        (
        cond (decide ((((y1).2).2).1 < (0 : Int)))
          (
          some ((0 : Int), ()))
          (
          cond (decide (((0 : Nat) + (List.length ((y3).1).1)) ≤ (List.length ((y3).1).1)))
            (
            Option.bind (F_lodgeref3_Elems N (List.take (List.length ((y3).1).1) ((y3).1).1)) fun y4 =>
            cond (decide ((y4).1 ≤ (((y1).2).2).1))
              (
              some ((0 : Int), ()))
              (
              cond (decide (((0 : Nat) + (List.length ((y3).1).1)) ≤ (List.length ((y3).1).1)))
                (
                Option.bind (F_lodgeref3_element N (y1).1 ((y1).2).1 (((y1).2).2).1 ((((y1).2).2).2).1 ((List.take (List.length ((y3).1).1) ((y3).1).1), (((y3).1).2).1)) fun y5 =>
                some y5)
                (
                none)))
            (
            none))))
      (
      none))
    (fun y6 =>
    some y6) y0

abbrev c_lodgeref3_Element (N : Nat) : CallSpec := ⟨26, ps_lodgeref3_Element, rs_lodgeref3_Element, fun x => F_lodgeref3_Element N x.1 x.2.1 x.2.2.1 x.2.2.2.1⟩
abbrev l_lodgeref3_Element_0 (N : Nat) : LoopSpec := ⟨0, h_lodgeref3_Element_0, e_lodgeref3_Element_0, fun x => g_lodgeref3_Element_0 N N x.1 x.2.1 x.2.2.1 x.2.2.2.1 x.2.2.2.2.1⟩

theorem cs_lodgeref3_Element_ok (S : Nat → Addr) (N : Nat) : CallsOK Go.Proofs.Tryd.prog E S (cs_lodgeref3_Element N) :=
  .cons (F_lodgeref3_Elems_ok S N) (.cons (F_lodgeref3_descsOf_ok S N) (.cons (F_lodgeref3_Result_ok S N) (.cons (F_lodgeref3_element_ok S N) (.cons (F_lodgeref3_Good_ok S N) (.nil)))))
noncomputable abbrev b_lodgeref3_Element_0 : Code := (loopsOf b_lodgeref3_Element).getD 0 .skip
theorem g_lodgeref3_Element_0_ok (S : Nat → Addr) (N : Nat) : ∀ n x y, (fun (x : Val (slotsTy h_lodgeref3_Element_0)) => g_lodgeref3_Element_0 N n x.1 x.2.1 x.2.2.1 x.2.2.2.1 x.2.2.2.2.1) x = some y → LoopCon Go.Proofs.Tryd.prog E S b_lodgeref3_Element_0 (encSlots h_lodgeref3_Element_0 x) (encEx e_lodgeref3_Element_0 y).1 (encEx e_lodgeref3_Element_0 y).2 :=
  loop_spec E_ok mixed (cs_lodgeref3_Element_ok S N) (all := loopsOf b_lodgeref3_Element) (ls := []) (.nil) (i := 0) (by kernel_rfl) (inner_of (by kernel_rfl)) (head := h_lodgeref3_Element_0) (ex := e_lodgeref3_Element_0) (fun n (x : Val (slotsTy h_lodgeref3_Element_0)) => g_lodgeref3_Element_0 N n x.1 x.2.1 x.2.2.1 x.2.2.2.1 x.2.2.2.2.1) (fun _ => rfl) (fun n x => by kernel_rfl)
theorem F_lodgeref3_Element_ok (S : Nat → Addr) (N : Nat) : ∀ x y, (c_lodgeref3_Element N).g x = some y → FCon Go.Proofs.Tryd.prog E S 26 ps_lodgeref3_Element rs_lodgeref3_Element x y := by
  intro x y h
  exact fun_spec E_ok mixed (cs_lodgeref3_Element_ok S N) (f := 26) (fi := ⟨b_lodgeref3_Element, 51, Go.Proofs.Tryd.f26.results.toList⟩) (by kernel_rfl) (ls := [l_lodgeref3_Element_0 N]) (.cons (by kernel_rfl) (g_lodgeref3_Element_0_ok S N N) (.nil)) (by kernel_rfl) (ps := ps_lodgeref3_Element) (rs := rs_lodgeref3_Element) (Eq.trans (b := F_lodgeref3_Element N x.1 x.2.1 x.2.2.1 x.2.2.2.1) (by kernel_rfl) h)

/-! lodge/lodgelaw9.ConvSays -/

abbrev ps_lodgelaw9_ConvSays : List Ty := [(.st (.pair (.st (.pair (.sl (.int .i64)) .bool)) (.sl (.int .i64)))), (.st (.pair (.st (.pair (.sl (.int .i64)) .bool)) (.sl (.int .i64)))), (.sl (.int .i64)), (.int .i64)]
abbrev rs_lodgelaw9_ConvSays : List Slot := [.data .bool]
abbrev cs_lodgelaw9_ConvSays (N : Nat) : List CallSpec := [c_conv_Result N, c_conv_Do N, c_lodgelaw9_first N, c_lodgeworld_Tensor N, c_lodgeref3_ConvResult N, c_lodgeref_Bare N, c_lodgeref3_Valid N, c_lodgesee_Same N, c_lodgesee_Is N, c_lodgeref_SameDesc N, c_conv_Cell N, c_lodgeref3_Apply N, c_lodgeref_SameTensor N, c_lodgeref3_Element N]
noncomputable abbrev b_lodgelaw9_ConvSays : Code := (Go.Proofs.Tryd.f5.body).getD .skip

abbrev j_lodgelaw9_ConvSays : Joins := [(17, [(AX.normal, [.dead, .dead, .data (.sl (.int .i64)), .data (.int .i64), .box [.d (.st (.pair (.st (.pair (.sl (.int .i64)) .bool)) (.sl (.int .i64))))], .box [.d (.st (.pair (.st (.pair (.sl (.int .i64)) .bool)) (.sl (.int .i64))))], .dead, .dead, .dead, .dead, .box [.d (.sl (.int .i64)), .d .bool, .sl (.int .i64)], .dead, .dead, .dead, .dead, .dead, .box [.d (.st (.pair (.int .i64) (.pair .bool (.int .i64))))], .dead, .dead, .dead, .dead, .dead, .dead, .dead, .dead, .dead, .dead, .dead, .dead, .dead, .dead, .dead, .dead, .dead, .dead, .dead, .dead, .dead, .dead, .dead, .dead, .dead, .dead, .dead, .dead, .dead, .dead, .dead, .dead, .dead, .dead, .dead, .dead, .dead, .dead, .dead, .dead, .dead, .dead, .dead, .dead, .dead, .dead, .dead, .dead, .dead, .dead, .dead, .dead, .dead, .dead, .dead, .dead, .dead, .dead, .dead, .dead, .dead, .dead, .dead, .dead, .dead, .dead, .dead, .dead, .dead, .dead, .dead, .dead, .dead, .dead, .dead, .data .bool, .dead, .dead, .dead, .dead, .dead, .dead, .dead, .dead, .dead, .dead, .dead, .dead, .dead, .dead, .dead, .dead, .dead, .dead, .dead, .dead, .dead, .dead, .dead, .dead, .dead, .dead, .dead, .dead, .dead, .dead, .dead, .dead, .dead, .dead, .dead, .dead, .dead, .dead, .dead, .dead])]),
  (14, [(AX.normal, [.dead, .dead, .data (.sl (.int .i64)), .data (.int .i64), .box [.d (.st (.pair (.st (.pair (.sl (.int .i64)) .bool)) (.sl (.int .i64))))], .box [.d (.st (.pair (.st (.pair (.sl (.int .i64)) .bool)) (.sl (.int .i64))))], .dead, .dead, .dead, .dead, .box [.d (.sl (.int .i64)), .d .bool, .sl (.int .i64)], .data .err, .box [.d (.st (.pair (.sl (.int .i64)) .bool))], .data .err, .box [.sl (.int .i64), .d .bool], .data (.int .i64), .box [.d (.st (.pair (.int .i64) (.pair .bool (.int .i64))))], .dead, .dead, .dead, .dead, .dead, .dead, .dead, .dead, .dead, .dead, .dead, .dead, .dead, .dead, .dead, .dead, .dead, .dead, .dead, .dead, .dead, .dead, .dead, .dead, .dead, .dead, .dead, .dead, .dead, .dead, .dead, .dead, .dead, .dead, .dead, .dead, .dead, .dead, .dead, .dead, .dead, .dead, .dead, .dead, .dead, .dead, .dead, .dead, .dead, .dead, .dead, .dead, .dead, .dead, .dead, .dead, .dead, .dead, .dead, .dead, .dead, .dead, .dead, .dead, .dead, .dead, .dead, .dead, .dead, .dead, .dead, .dead, .dead, .dead, .dead, .dead, .dead, .dead, .dead, .dead, .dead, .dead, .dead, .dead, .dead, .dead, .dead, .dead, .dead, .dead, .dead, .dead, .dead, .dead, .dead, .dead, .dead, .dead, .dead, .dead, .dead, .dead, .dead, .dead, .dead, .dead, .dead, .dead, .dead, .dead, .dead, .dead, .dead, .dead, .dead, .dead])]),
  (12, [(AX.normal, [.dead, .dead, .data (.sl (.int .i64)), .data (.int .i64), .box [.d (.st (.pair (.st (.pair (.sl (.int .i64)) .bool)) (.sl (.int .i64))))], .box [.d (.st (.pair (.st (.pair (.sl (.int .i64)) .bool)) (.sl (.int .i64))))], .dead, .dead, .dead, .dead, .box [.d (.sl (.int .i64)), .d .bool, .sl (.int .i64)], .data .err, .box [.d (.st (.pair (.sl (.int .i64)) .bool))], .data .err, .box [.sl (.int .i64), .d .bool], .data (.int .i64), .box [.d (.st (.pair (.int .i64) (.pair .bool (.int .i64))))], .dead, .dead, .dead, .dead, .dead, .dead, .dead, .dead, .dead, .dead, .dead, .dead, .dead, .dead, .dead, .dead, .dead, .dead, .dead, .dead, .dead, .dead, .dead, .dead, .dead, .dead, .dead, .dead, .dead, .dead, .dead, .dead, .dead, .dead, .dead, .dead, .dead, .dead, .dead, .dead, .dead, .dead, .dead, .dead, .dead, .dead, .dead, .dead, .dead, .dead, .dead, .dead, .dead, .dead, .dead, .dead, .dead, .dead, .dead, .dead, .dead, .dead, .dead, .dead, .dead, .dead, .dead, .dead, .dead, .dead, .dead, .dead, .dead, .dead, .dead, .dead, .dead, .dead, .dead, .dead, .dead, .dead, .dead, .dead, .dead, .dead, .dead, .dead, .dead, .dead, .dead, .dead, .dead, .dead, .dead, .dead, .dead, .dead, .dead, .dead, .dead, .dead, .dead, .dead, .dead, .dead, .dead, .dead, .dead, .dead, .dead, .dead, .dead, .dead, .dead, .dead])]),
  (6, [(AX.normal, [.dead, .dead, .data (.sl (.int .i64)), .data (.int .i64), .box [.d (.st (.pair (.st (.pair (.sl (.int .i64)) .bool)) (.sl (.int .i64))))], .box [.d (.st (.pair (.st (.pair (.sl (.int .i64)) .bool)) (.sl (.int .i64))))], .dead, .dead, .dead, .data .bool, .dead, .dead, .dead, .dead, .dead, .dead, .dead, .dead, .dead, .dead, .dead, .dead, .dead, .dead, .dead, .dead, .dead, .dead, .dead, .dead, .dead, .dead, .dead, .dead, .dead, .dead, .dead, .dead, .data .bool, .dead, .dead, .dead, .dead, .dead, .dead, .dead, .dead, .dead, .dead, .dead, .dead, .dead, .dead, .dead, .dead, .dead, .dead, .dead, .dead, .dead, .dead, .dead, .dead, .dead, .dead, .dead, .dead, .dead, .dead, .dead, .dead, .dead, .dead, .dead, .dead, .dead, .dead, .dead, .dead, .dead, .dead, .dead, .dead, .dead, .dead, .dead, .dead, .dead, .dead, .dead, .dead, .dead, .dead, .dead, .dead, .dead, .dead, .dead, .dead, .dead, .dead, .dead, .dead, .dead, .dead, .dead, .dead, .dead, .dead, .dead, .dead, .dead, .dead, .dead, .dead, .dead, .dead, .dead, .dead, .dead, .dead, .dead, .dead, .dead, .dead, .dead, .dead, .dead, .dead, .dead, .dead, .dead, .dead])])]
def F_lodgelaw9_ConvSays (N : Nat) (a_0 : ((List Int × Bool) × List Int)) (k_1 : ((List Int × Bool) × List Int)) (args_2 : List Int) (i_3 : Int) : Option (Bool × Unit) :=
  Option.bind (F_lodgelaw9_first N) fun y0 =>
  cond (Bool.not (y0).1)
    (
    some (false, ()))
    (
    Option.bind (
        Option.bind (F_lodgeworld_Tensor N a_0 (300 : Int)) fun y1 =>
        cond (Bool.not (y1).1)
          (
          some (args_2, (i_3, ((a_0, ()), ((k_1, ()), ((y0).1, (true, ())))))))
          (
          Option.bind (F_lodgeworld_Tensor N k_1 (300 : Int)) fun y2 =>
          cond (Bool.not (y2).1)
            (
            some (args_2, (i_3, ((a_0, ()), ((k_1, ()), ((y0).1, (true, ())))))))
            (
            cond (decide ((6 : Int) < (Nat.cast (List.length args_2) : Int)))
              (
              some (args_2, (i_3, ((a_0, ()), ((k_1, ()), ((y0).1, (true, ())))))))
              (
              some (args_2, (i_3, ((a_0, ()), ((k_1, ()), ((y0).1, ((Bool.not (y0).1), ())))))))))) fun y3 =>
    cond ((((((y3).2).2).2).2).2).1
      (
      some ((((((y3).2).2).2).2).1, ()))
      (
      Option.bind (F_conv_Do N ((((y3).2).2).1).1 (((((y3).2).2).2).1).1 (y3).1) fun y4 =>
      Option.bind (F_conv_Result N (y3).1 (((((y3).2).2).1).1).1 ((((((y3).2).2).2).1).1).1) fun y5 =>
      Option.bind (F_lodgeref3_ConvResult N (y3).1 (((((y3).2).2).1).1).1 ((((((y3).2).2).2).1).1).1) fun y6 =>
      Option.bind (F_lodgeref3_Valid N ((((y3).2).2).1).1) fun y7 =>
      Option.bind (
          cond (decide (((y7).1).1 = (0 : Int)))
            (
            Option.bind (F_lodgeref3_Valid N (((((y3).2).2).2).1).1) fun y8 =>
            cond (decide ((List.length ((((y4).1).2).2).1) = (List.length ((((y4).1).2).2).1)))
              (
              cond (decide ((List.length ((y6).1).1) = (List.length ((y6).1).1)))
                (
                some ((y3).1, (((y3).2).1, ((((y3).2).2).1, (((((y3).2).2).2).1, ((y4).1, (((y4).2).1, (((y5).1, ()), (((y5).2).1, ((y6).1, (((y6).2).1, (y8, ()))))))))))))
                (
                none))
              (
              none))
            (
            cond (decide ((List.length ((((y4).1).2).2).1) = (List.length ((((y4).1).2).2).1)))
              (
              cond (decide ((List.length ((y6).1).1) = (List.length ((y6).1).1)))
                (
                some ((y3).1, (((y3).2).1, ((((y3).2).2).1, (((((y3).2).2).2).1, ((y4).1, (((y4).2).1, (((y5).1, ()), (((y5).2).1, ((y6).1, (((y6).2).1, (y7, ()))))))))))))
                (
                none))
              (
              none))) fun y9 =>
      Option.bind (
          cond (decide ((((((((((((((y9).2).2).2).2).2).2).2).2).2).2).1).1).1 = (0 : Int)))
            (
            Option.bind (F_lodgeref_Bare N ((((((((((y9).2).2).2).2).2).2).2).2).2).1) fun y10 =>
            cond (decide ((List.length ((((((((y9).2).2).2).2).1).2).2).1) = (List.length ((((((((y9).2).2).2).2).1).2).2).1)))
              (
              cond (decide ((List.length ((((((((((y9).2).2).2).2).2).2).2).2).1).1) = (List.length ((((((((((y9).2).2).2).2).2).2).2).2).1).1)))
                (
                some ((y9).1, (((y9).2).1, ((((y9).2).2).1, (((((y9).2).2).2).1, ((((((y9).2).2).2).2).1, (((((((y9).2).2).2).2).2).1, ((((((((y9).2).2).2).2).2).2).1, (((((((((y9).2).2).2).2).2).2).2).1, ((((((((((y9).2).2).2).2).2).2).2).2).1, (((((((((((y9).2).2).2).2).2).2).2).2).2).1, (y10, ()))))))))))))
                (
                none))
              (
              none))
            (
            cond (decide ((List.length ((((((((y9).2).2).2).2).1).2).2).1) = (List.length ((((((((y9).2).2).2).2).1).2).2).1)))
              (
              cond (decide ((List.length ((((((((((y9).2).2).2).2).2).2).2).2).1).1) = (List.length ((((((((((y9).2).2).2).2).2).2).2).2).1).1)))
                (
                some y9)
                (
                none))
              (
              none))) fun y11 =>
      Option.bind (
          Option.bind (F_lodgesee_Is N ((((((((y11).2).2).2).2).2).2).2).1 ((((((((((y11).2).2).2).2).2).2).2).2).2).1) fun y12 =>
          cond (Bool.not (y12).1)
            (
            cond (decide ((List.length ((((((((y11).2).2).2).2).1).2).2).1) = (List.length ((((((((y11).2).2).2).2).1).2).2).1)))
              (
              some ((y11).1, (((y11).2).1, ((((y11).2).2).1, (((((y11).2).2).2).1, ((((((y11).2).2).2).2).1, ((((((((((((y11).2).2).2).2).2).2).2).2).2).2).1, (true, ()))))))))
              (
              none))
            (
            cond (decide (((0 : Nat) + (List.length ((((((((((y11).2).2).2).2).2).2).2).2).1).1)) ≤ (List.length ((((((((((y11).2).2).2).2).2).2).2).2).1).1)))
              (
              Option.bind (F_lodgeref_SameDesc N ((((((((y11).2).2).2).2).2).2).1).1 ((List.take (List.length ((((((((((y11).2).2).2).2).2).2).2).2).1).1) ((((((((((y11).2).2).2).2).2).2).2).2).1).1), (((((((((((y11).2).2).2).2).2).2).2).2).1).2).1)) fun y13 =>
              cond (Bool.not (y13).1)
                (
                cond (decide ((List.length ((((((((y11).2).2).2).2).1).2).2).1) = (List.length ((((((((y11).2).2).2).2).1).2).2).1)))
                  (
                  some ((y11).1, (((y11).2).1, ((((y11).2).2).1, (((((y11).2).2).2).1, ((((((y11).2).2).2).2).1, ((((((((((((y11).2).2).2).2).2).2).2).2).2).2).1, (true, ()))))))))
                  (
                  none))
                (
                Option.bind (F_lodgesee_Same N ((((((y11).2).2).2).2).2).1 ((((((((((((y11).2).2).2).2).2).2).2).2).2).2).1).1) fun y14 =>
                cond (decide ((List.length ((((((((y11).2).2).2).2).1).2).2).1) = (List.length ((((((((y11).2).2).2).2).1).2).2).1)))
                  (
                  some ((y11).1, (((y11).2).1, ((((y11).2).2).1, (((((y11).2).2).2).1, ((((((y11).2).2).2).2).1, ((((((((((((y11).2).2).2).2).2).2).2).2).2).2).1, ((Bool.not (y14).1), ()))))))))
                  (
                  none)))
              (
              none))) fun y15 =>
      cond (((((((y15).2).2).2).2).2).2).1
        (
        some (false, ()))
        (
        cond (decide (@Ne Int ((((((((y15).2).2).2).2).2).1).1).1 (0 : Int)))
          (
          cond (decide ((Nat.cast (List.length ((((((((y15).2).2).2).2).1).2).2).1) : Int) = (0 : Int)))
            (
            Option.bind (F_conv_Cell N ((((y15).2).2).1).1 (((((y15).2).2).2).1).1 ((y15).2).1 (y15).1) fun y16 =>
            some ((decide ((y16).1 = (0 : Int))), ()))
            (
            some (false, ())))
          (
          Option.bind (F_lodgeref3_Apply N (13 : Int) (y15).1 (((((y15).2).2).1).1 :: ((((((y15).2).2).2).1).1 :: ([] : List (((List Int) × Bool) × (List Int)))))) fun y17 =>
          cond (decide (((0 : Nat) + (List.length ((((((((y15).2).2).2).2).1).2).2).1)) ≤ (List.length ((((((((y15).2).2).2).2).1).2).2).1)))
            (
            cond (decide (((0 : Nat) + (List.length ((y17).1).1)) ≤ (List.length ((y17).1).1)))
              (
              cond (decide (((0 : Nat) + (List.length ((((y17).1).2).2).1)) ≤ (List.length ((((y17).1).2).2).1)))
                (
                Option.bind (F_lodgeref_SameTensor N ((((((((y15).2).2).2).2).1).1, (((((((y15).2).2).2).2).1).2).1), (List.take (List.length ((((((((y15).2).2).2).2).1).2).2).1) ((((((((y15).2).2).2).2).1).2).2).1)) (((List.take (List.length ((y17).1).1) ((y17).1).1), (((y17).1).2).1), (List.take (List.length ((((y17).1).2).2).1) ((((y17).1).2).2).1))) fun y18 =>
                cond (y18).1
                  (
                  Option.bind (F_conv_Cell N ((((y15).2).2).1).1 (((((y15).2).2).2).1).1 ((y15).2).1 (y15).1) fun y19 =>
                  Option.bind (F_lodgeref3_Element N (13 : Int) (y15).1 ((y15).2).1 (((((y15).2).2).1).1 :: ((((((y15).2).2).2).1).1 :: ([] : List (((List Int) × Bool) × (List Int)))))) fun y20 =>
                  some ((decide ((y19).1 = (y20).1)), ()))
                  (
                  some (false, ())))
                (
                none))
              (
              none))
            (
            none)))))

abbrev c_lodgelaw9_ConvSays (N : Nat) : CallSpec := ⟨5, ps_lodgelaw9_ConvSays, rs_lodgelaw9_ConvSays, fun x => F_lodgelaw9_ConvSays N x.1 x.2.1 x.2.2.1 x.2.2.2.1⟩

theorem cs_lodgelaw9_ConvSays_ok (S : Nat → Addr) (N : Nat) : CallsOK Go.Proofs.Tryd.prog E S (cs_lodgelaw9_ConvSays N) :=
  .cons (F_conv_Result_ok S N) (.cons (F_conv_Do_ok S N) (.cons (F_lodgelaw9_first_ok S N) (.cons (F_lodgeworld_Tensor_ok S N) (.cons (F_lodgeref3_ConvResult_ok S N) (.cons (F_lodgeref_Bare_ok S N) (.cons (F_lodgeref3_Valid_ok S N) (.cons (F_lodgesee_Same_ok S N) (.cons (F_lodgesee_Is_ok S N) (.cons (F_lodgeref_SameDesc_ok S N) (.cons (F_conv_Cell_ok S N) (.cons (F_lodgeref3_Apply_ok S N) (.cons (F_lodgeref_SameTensor_ok S N) (.cons (F_lodgeref3_Element_ok S N) (.nil))))))))))))))
theorem F_lodgelaw9_ConvSays_ok (S : Nat → Addr) (N : Nat) : ∀ x y, (c_lodgelaw9_ConvSays N).g x = some y → FCon Go.Proofs.Tryd.prog E S 5 ps_lodgelaw9_ConvSays rs_lodgelaw9_ConvSays x y := by
  intro x y h
  exact fun_specJ E_ok mixed (cs_lodgelaw9_ConvSays_ok S N) (f := 5) (fi := ⟨b_lodgelaw9_ConvSays, 133, Go.Proofs.Tryd.f5.results.toList⟩) (by kernel_rfl) (ls := []) (.nil) (js := j_lodgelaw9_ConvSays) (by kernel_rfl) (ps := ps_lodgelaw9_ConvSays) (rs := rs_lodgelaw9_ConvSays) (Eq.trans (b := F_lodgelaw9_ConvSays N x.1 x.2.1 x.2.2.1 x.2.2.2.1) (by kernel_rfl) h)

end Go.Proofs.YtbpifndhkdbmhaaDoor.Lg
