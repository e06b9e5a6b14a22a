/-
  The functions of the seat's program, as plain functions.
-/
import Derived.Test.YtooocaciaflbdaaDoorLgMatBFd
namespace Go.Proofs.YtooocaciaflbdaaDoor.Lg
open Go Go.Eng Go.Proofs
set_option maxRecDepth 100000

/-! lodge/lodgeref3.Good -/

abbrev ps_lodgeref3_Good : List Ty := [(.st (.pair (.st (.pair (.sl (.int .i64)) .bool)) (.sl (.int .i64))))]
abbrev rs_lodgeref3_Good : List Slot := [.data .bool]
abbrev cs_lodgeref3_Good (N : Nat) : List CallSpec := [c_lodgeref3_Valid N]
noncomputable abbrev b_lodgeref3_Good : Code := (Go.Proofs.Tryd.f49.body).getD .skip

def F_lodgeref3_Good (N : Nat) (t_0 : ((List Int × Bool) × List Int)) : Option (Bool × Unit) :=
  Option.bind (F_lodgeref3_Valid N t_0) fun y0 =>
  some ((decide (((y0).1).1 = (0 : Int))), ())

abbrev c_lodgeref3_Good (N : Nat) : CallSpec := ⟨49, ps_lodgeref3_Good, rs_lodgeref3_Good, fun x => F_lodgeref3_Good N x.1⟩

theorem cs_lodgeref3_Good_ok (S : Nat → Addr) (N : Nat) : CallsOK Go.Proofs.Tryd.prog E S (cs_lodgeref3_Good N) :=
  .cons (F_lodgeref3_Valid_ok S N) (.nil)
theorem F_lodgeref3_Good_ok (S : Nat → Addr) (N : Nat) : ∀ x y, (c_lodgeref3_Good N).g x = some y → FCon Go.Proofs.Tryd.prog E S 49 ps_lodgeref3_Good rs_lodgeref3_Good x y := by
  intro x y h
  exact fun_spec E_ok mixed (cs_lodgeref3_Good_ok S N) (f := 49) (fi := ⟨b_lodgeref3_Good, 7, Go.Proofs.Tryd.f49.results.toList⟩) (by kernel_rfl) (ls := []) (.nil) (by kernel_rfl) (ps := ps_lodgeref3_Good) (rs := rs_lodgeref3_Good) (Eq.trans (b := F_lodgeref3_Good N x.1) (by kernel_rfl) h)

/-! lodge/lodgeref3.Element -/

abbrev ps_lodgeref3_Element : List Ty := [(.int .i64), (.sl (.int .i64)), (.int .i64), (.sl (.st (.pair (.st (.pair (.sl (.int .i64)) .bool)) (.sl (.int .i64)))))]
abbrev rs_lodgeref3_Element : List Slot := [.data (.int .i64)]
abbrev cs_lodgeref3_Element (N : Nat) : List CallSpec := [c_lodgeref3_Elems N, c_lodgeref3_descsOf N, c_lodgeref3_Result N, c_lodgeref3_element N, c_lodgeref3_Good N]
noncomputable abbrev b_lodgeref3_Element : Code := (Go.Proofs.Tryd.f24.body).getD .skip

abbrev h_lodgeref3_Element_0 : List Slot := [.data (.int .i64), .data (.sl (.int .i64)), .data (.int .i64), .data (.sl (.st (.pair (.st (.pair (.sl (.int .i64)) .bool)) (.sl (.int .i64))))), .dead, .dead, .dead, .dead, .dead, .data (.int .i64), .dead, .dead, .dead, .dead, .dead, .dead, .dead, .dead, .dead, .dead, .dead, .dead, .dead, .dead, .dead, .dead, .dead, .dead, .dead, .dead, .dead, .dead, .dead, .dead, .dead, .dead, .dead, .dead, .dead, .dead, .dead, .dead, .dead, .dead, .dead, .dead, .dead, .dead, .dead, .dead, .dead]
abbrev e_lodgeref3_Element_0 : List (AX × List Slot) := [(AX.exit 0, [.data (.int .i64), .data (.sl (.int .i64)), .data (.int .i64), .data (.sl (.st (.pair (.st (.pair (.sl (.int .i64)) .bool)) (.sl (.int .i64))))), .dead, .dead, .dead, .dead, .dead, .dead, .dead, .dead, .dead, .dead, .dead, .dead, .dead, .dead, .dead, .dead, .dead, .dead, .dead, .dead, .dead, .dead, .dead, .dead, .dead, .dead, .dead, .dead, .dead, .dead, .dead, .dead, .dead, .dead, .dead, .dead, .dead, .dead, .dead, .dead, .dead, .dead, .dead, .dead, .dead, .dead, .dead]), (AX.ret, [.dead, .dead, .dead, .dead, .dead, .dead, .dead, .dead, .data (.int .i64), .dead, .dead, .dead, .dead, .dead, .dead, .dead, .dead, .dead, .dead, .dead, .dead, .dead, .dead, .dead, .dead, .dead, .dead, .dead, .dead, .dead, .dead, .dead, .dead, .dead, .dead, .dead, .dead, .dead, .dead, .dead, .dead, .dead, .dead, .dead, .dead, .dead, .dead, .dead, .dead, .dead, .dead])]
def g_lodgeref3_Element_0 (N : Nat) : Nat → Int → List Int → Int → List (((List Int × Bool) × List Int)) → Int → Option (Sum (Int × (List Int × (Int × (List (((List Int × Bool) × List Int)) × Unit)))) (Int × Unit))
  | 0, _, _, _, _, _ => none
  | n + 1, op_0, args_1, i_2, ins_3, k_9 =>
    cond (decide (k_9 < (Nat.cast (List.length ins_3) : Int)))
      (
      cond (decide ((0 : Int) ≤ k_9))
        (
        cond (decide ((Int.toNat k_9) < (List.length ins_3)))
          (
          Option.bind (F_lodgeref3_Good N (List.getD ins_3 (Int.toNat k_9) ((([] : List Int), false), ([] : List Int)))) fun y1 =>
          cond (Bool.not (y1).1)
            (
            some (Sum.inr ((0 : Int), ())))
            (
            (g_lodgeref3_Element_0 N n op_0 args_1 i_2 ins_3 (wi64 (k_9 + (1 : Int))))))
          (
          none))
        (
        none))
      (
      some (Sum.inl (op_0, (args_1, (i_2, (ins_3, ()))))))

def F_lodgeref3_Element (N : Nat) (op_0 : Int) (args_1 : List Int) (i_2 : Int) (ins_3 : List (((List Int × Bool) × List Int))) : Option (Int × Unit) :=
  Option.bind (g_lodgeref3_Element_0 N N op_0 args_1 i_2 ins_3 (0 : Int)) fun y0 =>
  Sum.elim (fun y1 =>
    Option.bind (F_lodgeref3_descsOf N ((((y1).2).2).2).1) fun y2 =>
    cond (decide (((0 : Nat) + (List.length (y2).1)) ≤ (List.length (y2).1)))
      (
      Option.bind (F_lodgeref3_Result N (y1).1 ((y1).2).1 (List.take (List.length (y2).1) (y2).1)) fun y3 =>
      cond (decide (@Ne Int ((y3).2).1 (0 : Int)))
        (
        some ((0 : Int), ()))
        (
        cond (decide ((((y1).2).2).1 < (0 : Int)))
          (
          some ((0 : Int), ()))
          (
          cond (decide (((0 : Nat) + (List.length ((y3).1).1)) ≤ (List.length ((y3).1).1)))
            (
            Option.bind (F_lodgeref3_Elems N (List.take (List.length ((y3).1).1) ((y3).1).1)) fun y4 =>
            cond (decide ((y4).1 ≤ (((y1).2).2).1))
              (
              some ((0 : Int), ()))
              (
              cond (decide (((0 : Nat) + (List.length ((y3).1).1)) ≤ (List.length ((y3).1).1)))
                (
                Option.bind (F_lodgeref3_element N (y1).1 ((y1).2).1 (((y1).2).2).1 ((((y1).2).2).2).1 ((List.take (List.length ((y3).1).1) ((y3).1).1), (((y3).1).2).1)) fun y5 =>
                some y5)
                (
                none)))
            (
            none))))
      (
      none))
    (fun y6 =>
    some y6) y0

abbrev c_lodgeref3_Element (N : Nat) : CallSpec := ⟨24, ps_lodgeref3_Element, rs_lodgeref3_Element, fun x => F_lodgeref3_Element N x.1 x.2.1 x.2.2.1 x.2.2.2.1⟩
abbrev l_lodgeref3_Element_0 (N : Nat) : LoopSpec := ⟨0, h_lodgeref3_Element_0, e_lodgeref3_Element_0, fun x => g_lodgeref3_Element_0 N N x.1 x.2.1 x.2.2.1 x.2.2.2.1 x.2.2.2.2.1⟩

theorem cs_lodgeref3_Element_ok (S : Nat → Addr) (N : Nat) : CallsOK Go.Proofs.Tryd.prog E S (cs_lodgeref3_Element N) :=
  .cons (F_lodgeref3_Elems_ok S N) (.cons (F_lodgeref3_descsOf_ok S N) (.cons (F_lodgeref3_Result_ok S N) (.cons (F_lodgeref3_element_ok S N) (.cons (F_lodgeref3_Good_ok S N) (.nil)))))
noncomputable abbrev b_lodgeref3_Element_0 : Code := (loopsOf b_lodgeref3_Element).getD 0 .skip
theorem g_lodgeref3_Element_0_ok (S : Nat → Addr) (N : Nat) : ∀ n x y, (fun (x : Val (slotsTy h_lodgeref3_Element_0)) => g_lodgeref3_Element_0 N n x.1 x.2.1 x.2.2.1 x.2.2.2.1 x.2.2.2.2.1) x = some y → LoopCon Go.Proofs.Tryd.prog E S b_lodgeref3_Element_0 (encSlots h_lodgeref3_Element_0 x) (encEx e_lodgeref3_Element_0 y).1 (encEx e_lodgeref3_Element_0 y).2 :=
  loop_spec E_ok mixed (cs_lodgeref3_Element_ok S N) (all := loopsOf b_lodgeref3_Element) (ls := []) (.nil) (i := 0) (by kernel_rfl) (inner_of (by kernel_rfl)) (head := h_lodgeref3_Element_0) (ex := e_lodgeref3_Element_0) (fun n (x : Val (slotsTy h_lodgeref3_Element_0)) => g_lodgeref3_Element_0 N n x.1 x.2.1 x.2.2.1 x.2.2.2.1 x.2.2.2.2.1) (fun _ => rfl) (fun n x => by kernel_rfl)
theorem F_lodgeref3_Element_ok (S : Nat → Addr) (N : Nat) : ∀ x y, (c_lodgeref3_Element N).g x = some y → FCon Go.Proofs.Tryd.prog E S 24 ps_lodgeref3_Element rs_lodgeref3_Element x y := by
  intro x y h
  exact fun_spec E_ok mixed (cs_lodgeref3_Element_ok S N) (f := 24) (fi := ⟨b_lodgeref3_Element, 51, Go.Proofs.Tryd.f24.results.toList⟩) (by kernel_rfl) (ls := [l_lodgeref3_Element_0 N]) (.cons (by kernel_rfl) (g_lodgeref3_Element_0_ok S N N) (.nil)) (by kernel_rfl) (ps := ps_lodgeref3_Element) (rs := rs_lodgeref3_Element) (Eq.trans (b := F_lodgeref3_Element N x.1 x.2.1 x.2.2.1 x.2.2.2.1) (by kernel_rfl) h)

/-! lodge/lodgelaw8.MatSays -/

abbrev ps_lodgelaw8_MatSays : List Ty := [(.st (.pair (.st (.pair (.sl (.int .i64)) .bool)) (.sl (.int .i64)))), (.st (.pair (.st (.pair (.sl (.int .i64)) .bool)) (.sl (.int .i64)))), (.int .i64), (.int .i64), (.int .i64)]
abbrev rs_lodgelaw8_MatSays : List Slot := [.data .bool]
abbrev cs_lodgelaw8_MatSays (N : Nat) : List CallSpec := [c_mat_Result N, c_mat_Mul N, c_lodgelaw8_first N, c_lodgeworld_Tensor N, c_lodgeref_SameDesc N, c_lodgeref3_MatResult N, c_lodgeref3_Apply N, c_mat_Turn N, c_lodgesee_Same N, c_lodgeref_SameTensor N, c_lodgesee_Is N, c_mat_Cell N, c_lodgeref3_Element N]
noncomputable abbrev b_lodgelaw8_MatSays : Code := (Go.Proofs.Tryd.f6.body).getD .skip

def F_lodgelaw8_MatSays (N : Nat) (a_0 : ((List Int × Bool) × List Int)) (b_1 : ((List Int × Bool) × List Int)) (za_2 : Int) (zb_3 : Int) (i_4 : Int) : Option (Bool × Unit) :=
  Option.bind (F_lodgelaw8_first N) fun y0 =>
  cond (Bool.not (y0).1)
    (
    some (false, ()))
    (
    Option.bind (F_lodgeworld_Tensor N a_0 (300 : Int)) fun y1 =>
    cond (Bool.not (y1).1)
      (
      some y0)
      (
      Option.bind (F_lodgeworld_Tensor N b_1 (300 : Int)) fun y2 =>
      cond (Bool.not (y2).1)
        (
        some y0)
        (
        cond (Bool.not (y0).1)
          (
          some y0)
          (
          Option.bind (F_mat_Mul N a_0 b_1 za_2 zb_3) fun y3 =>
          Option.bind (F_lodgeref3_Apply N (12 : Int) (za_2 :: (zb_3 :: ([] : List Int))) (a_0 :: (b_1 :: ([] : List (((List Int) × Bool) × (List Int)))))) fun y4 =>
          Option.bind (F_mat_Result N za_2 zb_3 (a_0).1 (b_1).1) fun y5 =>
          Option.bind (F_lodgeref3_MatResult N za_2 zb_3 (a_0).1 (b_1).1) fun y6 =>
          Option.bind (F_mat_Turn N a_0) fun y7 =>
          Option.bind (F_lodgeref3_Apply N (21 : Int) ([] : List Int) (a_0 :: ([] : List (((List Int) × Bool) × (List Int))))) fun y8 =>
          Option.bind (F_lodgesee_Same N ((y3).2).1 ((y4).2).1) fun y9 =>
          cond (y9).1
            (
            cond (decide (((0 : Nat) + (List.length ((((y3).1).2).2).1)) ≤ (List.length ((((y3).1).2).2).1)))
              (
              cond (decide (((0 : Nat) + (List.length ((y4).1).1)) ≤ (List.length ((y4).1).1)))
                (
                cond (decide (((0 : Nat) + (List.length ((((y4).1).2).2).1)) ≤ (List.length ((((y4).1).2).2).1)))
                  (
                  Option.bind (F_lodgeref_SameTensor N ((((y3).1).1, (((y3).1).2).1), (List.take (List.length ((((y3).1).2).2).1) ((((y3).1).2).2).1)) (((List.take (List.length ((y4).1).1) ((y4).1).1), (((y4).1).2).1), (List.take (List.length ((((y4).1).2).2).1) ((((y4).1).2).2).1))) fun y10 =>
                  cond (y10).1
                    (
                    Option.bind (F_lodgesee_Is N ((y5).2).1 ((y6).2).1) fun y11 =>
                    cond (y11).1
                      (
                      cond (decide (((0 : Nat) + (List.length ((y6).1).1)) ≤ (List.length ((y6).1).1)))
                        (
                        Option.bind (F_lodgeref_SameDesc N (y5).1 ((List.take (List.length ((y6).1).1) ((y6).1).1), (((y6).1).2).1)) fun y12 =>
                        cond (y12).1
                          (
                          Option.bind (F_lodgesee_Same N ((y7).2).1 ((y8).2).1) fun y13 =>
                          cond (y13).1
                            (
                            cond (decide (((0 : Nat) + (List.length ((y7).1).1)) ≤ (List.length ((y7).1).1)))
                              (
                              cond (decide (((0 : Nat) + (List.length ((((y7).1).2).2).1)) ≤ (List.length ((((y7).1).2).2).1)))
                                (
                                cond (decide (((0 : Nat) + (List.length ((y8).1).1)) ≤ (List.length ((y8).1).1)))
                                  (
                                  cond (decide (((0 : Nat) + (List.length ((((y8).1).2).2).1)) ≤ (List.length ((((y8).1).2).2).1)))
                                    (
                                    Option.bind (F_lodgeref_SameTensor N (((List.take (List.length ((y7).1).1) ((y7).1).1), (((y7).1).2).1), (List.take (List.length ((((y7).1).2).2).1) ((((y7).1).2).2).1)) (((List.take (List.length ((y8).1).1) ((y8).1).1), (((y8).1).2).1), (List.take (List.length ((((y8).1).2).2).1) ((((y8).1).2).2).1))) fun y14 =>
                                    cond (y14).1
                                      (
                                      Option.bind (F_mat_Cell N a_0 b_1 za_2 zb_3 i_4) fun y15 =>
                                      Option.bind (F_lodgeref3_Element N (12 : Int) (za_2 :: (zb_3 :: ([] : List Int))) i_4 (a_0 :: (b_1 :: ([] : List (((List Int) × Bool) × (List Int)))))) fun y16 =>
                                      some ((decide ((y15).1 = (y16).1)), ()))
                                      (
                                      some (false, ())))
                                    (
                                    none))
                                  (
                                  none))
                                (
                                none))
                              (
                              none))
                            (
                            some (false, ())))
                          (
                          some (false, ())))
                        (
                        none))
                      (
                      some (false, ())))
                    (
                    some (false, ())))
                  (
                  none))
                (
                none))
              (
              none))
            (
            some (false, ()))))))

abbrev c_lodgelaw8_MatSays (N : Nat) : CallSpec := ⟨6, ps_lodgelaw8_MatSays, rs_lodgelaw8_MatSays, fun x => F_lodgelaw8_MatSays N x.1 x.2.1 x.2.2.1 x.2.2.2.1 x.2.2.2.2.1⟩

theorem cs_lodgelaw8_MatSays_ok (S : Nat → Addr) (N : Nat) : CallsOK Go.Proofs.Tryd.prog E S (cs_lodgelaw8_MatSays N) :=
  .cons (F_mat_Result_ok S N) (.cons (F_mat_Mul_ok S N) (.cons (F_lodgelaw8_first_ok S N) (.cons (F_lodgeworld_Tensor_ok S N) (.cons (F_lodgeref_SameDesc_ok S N) (.cons (F_lodgeref3_MatResult_ok S N) (.cons (F_lodgeref3_Apply_ok S N) (.cons (F_mat_Turn_ok S N) (.cons (F_lodgesee_Same_ok S N) (.cons (F_lodgeref_SameTensor_ok S N) (.cons (F_lodgesee_Is_ok S N) (.cons (F_mat_Cell_ok S N) (.cons (F_lodgeref3_Element_ok S N) (.nil)))))))))))))
theorem F_lodgelaw8_MatSays_ok (S : Nat → Addr) (N : Nat) : ∀ x y, (c_lodgelaw8_MatSays N).g x = some y → FCon Go.Proofs.Tryd.prog E S 6 ps_lodgelaw8_MatSays rs_lodgelaw8_MatSays x y := by
  intro x y h
  exact fun_spec E_ok mixed (cs_lodgelaw8_MatSays_ok S N) (f := 6) (fi := ⟨b_lodgelaw8_MatSays, 134, Go.Proofs.Tryd.f6.results.toList⟩) (by kernel_rfl) (ls := []) (.nil) (by kernel_rfl) (ps := ps_lodgelaw8_MatSays) (rs := rs_lodgelaw8_MatSays) (Eq.trans (b := F_lodgelaw8_MatSays N x.1 x.2.1 x.2.2.1 x.2.2.2.1 x.2.2.2.2.1) (by kernel_rfl) h)

end Go.Proofs.YtooocaciaflbdaaDoor.Lg
