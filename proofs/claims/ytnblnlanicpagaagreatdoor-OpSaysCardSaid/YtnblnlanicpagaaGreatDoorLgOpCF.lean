/-
  The functions of the seat's program, as plain functions.
-/
import Derived.Test.YtnblnlanicpagaaGreatDoorLgOpCFf
namespace Go.Proofs.YtnblnlanicpagaaGreatDoor.Lg
open Go Go.Eng Go.Proofs
set_option maxRecDepth 100000

/-! lodge/lodgeref3.Apply -/

abbrev ps_lodgeref3_Apply : List Ty := [(.int .i64), (.sl (.int .i64)), (.sl (.st (.pair (.st (.pair (.sl (.int .i64)) .bool)) (.sl (.int .i64)))))]
abbrev rs_lodgeref3_Apply : List Slot := [.ag [.sl (.int .i64), .d .bool, .sl (.int .i64)], .data (.st (.pair (.int .i64) (.pair .bool (.int .i64))))]
abbrev cs_lodgeref3_Apply (N : Nat) : List CallSpec := [c_lodgeref3_Result N, c_lodgeref_Bare N, c_lodgeref_None N, c_lodgeref3_Valid N, c_lodgeref3_descsOf N, c_lodgeref3_Zero N, c_lodgeref3_element N]
noncomputable abbrev b_lodgeref3_Apply : Code := (Go.Proofs.Tryz.f7.body).getD .skip

abbrev h_lodgeref3_Apply_0 : List Slot := [.data (.int .i64), .data (.sl (.int .i64)), .data (.sl (.st (.pair (.st (.pair (.sl (.int .i64)) .bool)) (.sl (.int .i64))))), .dead, .dead, .dead, .box [.sl (.int .i64), .d .bool, .sl (.int .i64)], .box [.d (.st (.pair (.int .i64) (.pair .bool (.int .i64))))], .data (.int .i64), .dead, .dead, .dead, .dead, .dead, .dead, .dead, .dead, .dead, .dead, .dead, .dead, .dead, .dead, .dead, .dead, .dead, .dead, .dead, .dead, .dead, .dead, .dead, .dead, .dead, .dead, .dead, .dead, .dead, .dead, .dead, .dead, .dead, .dead, .dead, .dead, .dead, .dead, .dead, .dead, .dead, .dead, .dead, .dead, .dead, .dead, .dead, .dead, .dead, .dead, .dead, .dead, .dead, .dead, .dead]
abbrev e_lodgeref3_Apply_0 : List (AX × List Slot) := [(AX.exit 0, [.data (.int .i64), .data (.sl (.int .i64)), .data (.sl (.st (.pair (.st (.pair (.sl (.int .i64)) .bool)) (.sl (.int .i64))))), .dead, .dead, .dead, .box [.sl (.int .i64), .d .bool, .sl (.int .i64)], .box [.d (.st (.pair (.int .i64) (.pair .bool (.int .i64))))], .dead, .dead, .dead, .dead, .dead, .dead, .dead, .dead, .dead, .dead, .dead, .dead, .dead, .dead, .dead, .dead, .dead, .dead, .dead, .dead, .dead, .dead, .dead, .dead, .dead, .dead, .dead, .dead, .dead, .dead, .dead, .dead, .dead, .dead, .dead, .dead, .dead, .dead, .dead, .dead, .dead, .dead, .dead, .dead, .dead, .dead, .dead, .dead, .dead, .dead, .dead, .dead, .dead, .dead, .dead, .dead]), (AX.ret, [.dead, .dead, .dead, .dead, .dead, .dead, .box [.sl (.int .i64), .d .bool, .sl (.int .i64)], .box [.d (.st (.pair (.int .i64) (.pair .bool (.int .i64))))], .dead, .dead, .dead, .dead, .dead, .dead, .dead, .dead, .dead, .dead, .dead, .dead, .dead, .dead, .dead, .dead, .dead, .dead, .dead, .dead, .dead, .dead, .dead, .dead, .dead, .dead, .dead, .dead, .dead, .dead, .dead, .dead, .dead, .dead, .dead, .dead, .dead, .dead, .dead, .dead, .dead, .dead, .dead, .dead, .dead, .dead, .dead, .dead, .dead, .dead, .dead, .dead, .dead, .dead, .dead, .dead])]
def g_lodgeref3_Apply_0 (N : Nat) : Nat → Int → List Int → List (((List Int × Bool) × List Int)) → (List Int × (Bool × (List Int × Unit))) → ((Int × (Bool × Int)) × Unit) → Int → Option (Sum (Int × (List Int × (List (((List Int × Bool) × List Int)) × ((List Int × (Bool × (List Int × Unit))) × (((Int × (Bool × Int)) × Unit) × Unit))))) ((List Int × (Bool × (List Int × Unit))) × (((Int × (Bool × Int)) × Unit) × Unit)))
  | 0, _, _, _, _, _, _ => none
  | n + 1, op_0, args_1, ins_2, t_6, t_7, i_8 =>
    cond (decide (i_8 < (Nat.cast (List.length ins_2) : Int)))
      (
      cond (decide ((0 : Int) ≤ i_8))
        (
        cond (decide ((Int.toNat i_8) < (List.length ins_2)))
          (
          Option.bind (F_lodgeref3_Valid N (List.getD ins_2 (Int.toNat i_8) ((([] : List Int), false), ([] : List Int)))) fun y1 =>
          cond (decide (@Ne Int ((y1).1).1 (0 : Int)))
            (
            some (Sum.inr ((([] : List Int), (false, (([] : List Int), ()))), (y1, ()))))
            (
            cond (decide ((List.length (t_6).1) = (List.length (t_6).1)))
              (
              cond (decide ((List.length (((t_6).2).2).1) = (List.length (((t_6).2).2).1)))
                (
                (g_lodgeref3_Apply_0 N n op_0 args_1 ins_2 t_6 t_7 (wi64 (i_8 + (1 : Int)))))
                (
                none))
              (
              none)))
          (
          none))
        (
        none))
      (
      cond (decide ((List.length (t_6).1) = (List.length (t_6).1)))
        (
        cond (decide ((List.length (((t_6).2).2).1) = (List.length (((t_6).2).2).1)))
          (
          some (Sum.inl (op_0, (args_1, (ins_2, (t_6, (t_7, ())))))))
          (
          none))
        (
        none))

abbrev h_lodgeref3_Apply_1 : List Slot := [.data (.int .i64), .data (.sl (.int .i64)), .data (.sl (.st (.pair (.st (.pair (.sl (.int .i64)) .bool)) (.sl (.int .i64))))), .dead, .dead, .dead, .box [.sl (.int .i64), .d .bool, .sl (.int .i64)], .box [.d (.st (.pair (.int .i64) (.pair .bool (.int .i64))))], .dead, .dead, .box [.sl (.int .i64), .d .bool], .dead, .box [.sl (.int .i64), .d .bool, .sl (.int .i64)], .data (.int .i64), .dead, .dead, .dead, .dead, .dead, .dead, .dead, .dead, .dead, .dead, .dead, .dead, .dead, .dead, .dead, .dead, .dead, .dead, .dead, .dead, .dead, .dead, .dead, .dead, .dead, .dead, .dead, .dead, .dead, .dead, .dead, .dead, .dead, .dead, .dead, .dead, .dead, .dead, .dead, .dead, .dead, .dead, .dead, .dead, .dead, .dead, .dead, .dead, .dead, .dead]
abbrev e_lodgeref3_Apply_1 : List (AX × List Slot) := [(AX.exit 2, [.dead, .dead, .dead, .dead, .dead, .dead, .box [.sl (.int .i64), .d .bool, .sl (.int .i64)], .box [.d (.st (.pair (.int .i64) (.pair .bool (.int .i64))))], .dead, .dead, .dead, .dead, .box [.sl (.int .i64), .d .bool, .sl (.int .i64)], .dead, .dead, .dead, .dead, .dead, .dead, .dead, .dead, .dead, .dead, .dead, .dead, .dead, .dead, .dead, .dead, .dead, .dead, .dead, .dead, .dead, .dead, .dead, .dead, .dead, .dead, .dead, .dead, .dead, .dead, .dead, .dead, .dead, .dead, .dead, .dead, .dead, .dead, .dead, .dead, .dead, .dead, .dead, .dead, .dead, .dead, .dead, .dead, .dead, .dead, .dead])]
def g_lodgeref3_Apply_1 (N : Nat) : Nat → Int → List Int → List (((List Int × Bool) × List Int)) → (List Int × (Bool × (List Int × Unit))) → ((Int × (Bool × Int)) × Unit) → (List Int × (Bool × Unit)) → (List Int × (Bool × (List Int × Unit))) → Int → Option ((List Int × (Bool × (List Int × Unit))) × (((Int × (Bool × Int)) × Unit) × ((List Int × (Bool × (List Int × Unit))) × Unit)))
  | 0, _, _, _, _, _, _, _, _ => none
  | n + 1, op_0, args_1, ins_2, t_6, t_7, d_10, t_12, i_13 =>
    cond (decide (i_13 < (Nat.cast (List.length (((t_12).2).2).1) : Int)))
      (
      cond (decide (((0 : Nat) + (List.length (d_10).1)) ≤ (List.length (d_10).1)))
        (
        Option.bind (F_lodgeref3_element N op_0 args_1 i_13 ins_2 ((List.take (List.length (d_10).1) (d_10).1), ((d_10).2).1)) fun y8 =>
        cond (decide ((0 : Int) ≤ i_13))
          (
          cond (decide ((Int.toNat i_13) < (List.length (((t_12).2).2).1)))
            (
            cond (decide (((0 : Nat) + (Int.toNat i_13)) < (List.length (((t_12).2).2).1)))
              (
              cond (decide ((List.length (t_6).1) = (List.length (t_6).1)))
                (
                cond (decide ((List.length (((t_6).2).2).1) = (List.length (((t_6).2).2).1)))
                  (
                  cond (decide ((List.length (d_10).1) = (List.length (d_10).1)))
                    (
                    cond (decide ((List.length (t_12).1) = (List.length (t_12).1)))
                      (
                      cond (decide ((List.length (((t_12).2).2).1) = (List.length (List.set (((t_12).2).2).1 ((0 : Nat) + (Int.toNat i_13)) (y8).1))))
                        (
                        (g_lodgeref3_Apply_1 N n op_0 args_1 ins_2 t_6 t_7 d_10 ((t_12).1, (((t_12).2).1, ((List.set (((t_12).2).2).1 ((0 : Nat) + (Int.toNat i_13)) (y8).1), ()))) (wi64 (i_13 + (1 : Int)))))
                        (
                        none))
                      (
                      none))
                    (
                    none))
                  (
                  none))
                (
                none))
              (
              none))
            (
            none))
          (
          none))
        (
        none))
      (
      cond (decide ((List.length (t_6).1) = (List.length (t_6).1)))
        (
        cond (decide ((List.length (((t_6).2).2).1) = (List.length (((t_6).2).2).1)))
          (
          cond (decide ((List.length (t_12).1) = (List.length (t_12).1)))
            (
            cond (decide ((List.length (((t_12).2).2).1) = (List.length (((t_12).2).2).1)))
              (
              some (t_6, (t_7, (t_12, ()))))
              (
              none))
            (
            none))
          (
          none))
        (
        none))

def F_lodgeref3_Apply (N : Nat) (op_0 : Int) (args_1 : List Int) (ins_2 : List (((List Int × Bool) × List Int))) : Option ((List Int × (Bool × (List Int × Unit))) × ((Int × (Bool × Int)) × Unit)) :=
  Option.bind (g_lodgeref3_Apply_0 N N op_0 args_1 ins_2 (([] : List Int), (false, (([] : List Int), ()))) (((0 : Int), (false, (0 : Int))), ()) (0 : Int)) fun y0 =>
  Sum.elim (fun y1 =>
    Option.bind (F_lodgeref3_descsOf N (((y1).2).2).1) fun y2 =>
    cond (decide (((0 : Nat) + (List.length (y2).1)) ≤ (List.length (y2).1)))
      (
      Option.bind (F_lodgeref3_Result N (y1).1 ((y1).2).1 (List.take (List.length (y2).1) (y2).1)) fun y3 =>
      cond (decide (@Ne Int ((y3).2).1 (0 : Int)))
        (
        Option.bind (F_lodgeref_Bare N ((y3).2).1) fun y4 =>
        some ((([] : List Int), (false, (([] : List Int), ()))), y4))
        (
        cond (decide (((0 : Nat) + (List.length ((y3).1).1)) ≤ (List.length ((y3).1).1)))
          (
          Option.bind (F_lodgeref3_Zero N ((List.take (List.length ((y3).1).1) ((y3).1).1), (((y3).1).2).1)) fun y5 =>
          cond (decide ((List.length (((((y1).2).2).2).1).1) = (List.length (((((y1).2).2).2).1).1)))
            (
            cond (decide ((List.length (((((((y1).2).2).2).1).2).2).1) = (List.length (((((((y1).2).2).2).1).2).2).1)))
              (
              cond (decide ((List.length ((y3).1).1) = (List.length ((y3).1).1)))
                (
                cond (decide ((List.length ((y5).1).1) = (List.length ((y5).1).1)))
                  (
                  cond (decide ((List.length ((((y5).1).2).2).1) = (List.length ((((y5).1).2).2).1)))
                    (
                    Option.bind (g_lodgeref3_Apply_1 N N (y1).1 ((y1).2).1 (((y1).2).2).1 ((((y1).2).2).2).1 (((((y1).2).2).2).2).1 (y3).1 (y5).1 (0 : Int)) fun y6 =>
                    Option.bind (F_lodgeref_None N) fun y7 =>
                    cond (decide ((List.length ((((y6).2).2).1).1) = (List.length ((((y6).2).2).1).1)))
                      (
                      cond (decide ((List.length ((((((y6).2).2).1).2).2).1) = (List.length ((((((y6).2).2).1).2).2).1)))
                        (
                        some ((((y6).2).2).1, y7))
                        (
                        none))
                      (
                      none))
                    (
                    none))
                  (
                  none))
                (
                none))
              (
              none))
            (
            none))
          (
          none)))
      (
      none))
    (fun y8 =>
    cond (decide ((List.length ((y8).1).1) = (List.length ((y8).1).1)))
      (
      cond (decide ((List.length ((((y8).1).2).2).1) = (List.length ((((y8).1).2).2).1)))
        (
        some ((y8).1, ((y8).2).1))
        (
        none))
      (
      none)) y0

abbrev c_lodgeref3_Apply (N : Nat) : CallSpec := ⟨7, ps_lodgeref3_Apply, rs_lodgeref3_Apply, fun x => F_lodgeref3_Apply N x.1 x.2.1 x.2.2.1⟩
abbrev l_lodgeref3_Apply_1 (N : Nat) : LoopSpec := ⟨1, h_lodgeref3_Apply_1, e_lodgeref3_Apply_1, fun x => g_lodgeref3_Apply_1 N N x.1 x.2.1 x.2.2.1 x.2.2.2.1 x.2.2.2.2.1 x.2.2.2.2.2.1 x.2.2.2.2.2.2.1 x.2.2.2.2.2.2.2.1⟩
abbrev l_lodgeref3_Apply_0 (N : Nat) : LoopSpec := ⟨0, h_lodgeref3_Apply_0, e_lodgeref3_Apply_0, fun x => g_lodgeref3_Apply_0 N N x.1 x.2.1 x.2.2.1 x.2.2.2.1 x.2.2.2.2.1 x.2.2.2.2.2.1⟩

theorem cs_lodgeref3_Apply_ok (S : Nat → Addr) (N : Nat) : CallsOK Go.Proofs.Tryz.prog E S (cs_lodgeref3_Apply N) :=
  .cons (F_lodgeref3_Result_ok S N) (.cons (F_lodgeref_Bare_ok S N) (.cons (F_lodgeref_None_ok S N) (.cons (F_lodgeref3_Valid_ok S N) (.cons (F_lodgeref3_descsOf_ok S N) (.cons (F_lodgeref3_Zero_ok S N) (.cons (F_lodgeref3_element_ok S N) (.nil)))))))
noncomputable abbrev b_lodgeref3_Apply_1 : Code := (loopsOf b_lodgeref3_Apply).getD 1 .skip
theorem g_lodgeref3_Apply_1_ok (S : Nat → Addr) (N : Nat) : ∀ n x y, (fun (x : Val (slotsTy h_lodgeref3_Apply_1)) => g_lodgeref3_Apply_1 N n x.1 x.2.1 x.2.2.1 x.2.2.2.1 x.2.2.2.2.1 x.2.2.2.2.2.1 x.2.2.2.2.2.2.1 x.2.2.2.2.2.2.2.1) x = some y → LoopCon Go.Proofs.Tryz.prog E S b_lodgeref3_Apply_1 (encSlots h_lodgeref3_Apply_1 x) (encEx e_lodgeref3_Apply_1 y).1 (encEx e_lodgeref3_Apply_1 y).2 :=
  loop_spec E_ok mixed (cs_lodgeref3_Apply_ok S N) (all := loopsOf b_lodgeref3_Apply) (ls := []) (.nil) (i := 1) (by kernel_rfl) (inner_of (by kernel_rfl)) (head := h_lodgeref3_Apply_1) (ex := e_lodgeref3_Apply_1) (fun n (x : Val (slotsTy h_lodgeref3_Apply_1)) => g_lodgeref3_Apply_1 N n x.1 x.2.1 x.2.2.1 x.2.2.2.1 x.2.2.2.2.1 x.2.2.2.2.2.1 x.2.2.2.2.2.2.1 x.2.2.2.2.2.2.2.1) (fun _ => rfl) (fun n x => by kernel_rfl)
noncomputable abbrev b_lodgeref3_Apply_0 : Code := (loopsOf b_lodgeref3_Apply).getD 0 .skip
theorem g_lodgeref3_Apply_0_ok (S : Nat → Addr) (N : Nat) : ∀ n x y, (fun (x : Val (slotsTy h_lodgeref3_Apply_0)) => g_lodgeref3_Apply_0 N n x.1 x.2.1 x.2.2.1 x.2.2.2.1 x.2.2.2.2.1 x.2.2.2.2.2.1) x = some y → LoopCon Go.Proofs.Tryz.prog E S b_lodgeref3_Apply_0 (encSlots h_lodgeref3_Apply_0 x) (encEx e_lodgeref3_Apply_0 y).1 (encEx e_lodgeref3_Apply_0 y).2 :=
  loop_spec E_ok mixed (cs_lodgeref3_Apply_ok S N) (all := loopsOf b_lodgeref3_Apply) (ls := []) (.nil) (i := 0) (by kernel_rfl) (inner_of (by kernel_rfl)) (head := h_lodgeref3_Apply_0) (ex := e_lodgeref3_Apply_0) (fun n (x : Val (slotsTy h_lodgeref3_Apply_0)) => g_lodgeref3_Apply_0 N n x.1 x.2.1 x.2.2.1 x.2.2.2.1 x.2.2.2.2.1 x.2.2.2.2.2.1) (fun _ => rfl) (fun n x => by kernel_rfl)
theorem F_lodgeref3_Apply_ok (S : Nat → Addr) (N : Nat) : ∀ x y, (c_lodgeref3_Apply N).g x = some y → FCon Go.Proofs.Tryz.prog E S 7 ps_lodgeref3_Apply rs_lodgeref3_Apply x y := by
  intro x y h
  exact fun_spec E_ok mixed (cs_lodgeref3_Apply_ok S N) (f := 7) (fi := ⟨b_lodgeref3_Apply, 64, Go.Proofs.Tryz.f7.results.toList⟩) (by kernel_rfl) (ls := [l_lodgeref3_Apply_1 N, l_lodgeref3_Apply_0 N]) (.cons (by kernel_rfl) (g_lodgeref3_Apply_1_ok S N N) (.cons (by kernel_rfl) (g_lodgeref3_Apply_0_ok S N N) (.nil))) (by kernel_rfl) (ps := ps_lodgeref3_Apply) (rs := rs_lodgeref3_Apply) (Eq.trans (b := F_lodgeref3_Apply N x.1 x.2.1 x.2.2.1) (by kernel_rfl) h)

/-! lodge/op.names -/

abbrev ps_op_names : List Ty := []
abbrev rs_op_names : List Slot := [.sl .str]
abbrev cs_op_names (N : Nat) : List CallSpec := []
noncomputable abbrev b_op_names : Code := (Go.Proofs.Tryz.f37.body).getD .skip

def F_op_names (N : Nat)  : Option (List ByteArray × Unit) :=
  some (((ByteArray.mk (@List.toArray UInt8 ((97 : UInt8) :: ((100 : UInt8) :: ((100 : UInt8) :: ([] : List UInt8)))))) :: ((ByteArray.mk (@List.toArray UInt8 ((115 : UInt8) :: ((117 : UInt8) :: ((98 : UInt8) :: ([] : List UInt8)))))) :: ((ByteArray.mk (@List.toArray UInt8 ((109 : UInt8) :: ((117 : UInt8) :: ((108 : UInt8) :: ([] : List UInt8)))))) :: ((ByteArray.mk (@List.toArray UInt8 ((109 : UInt8) :: ((97 : UInt8) :: ((120 : UInt8) :: ([] : List UInt8)))))) :: ((ByteArray.mk (@List.toArray UInt8 ((114 : UInt8) :: ((101 : UInt8) :: ((108 : UInt8) :: ((117 : UInt8) :: ([] : List UInt8))))))) :: ((ByteArray.mk (@List.toArray UInt8 ((99 : UInt8) :: ((108 : UInt8) :: ((97 : UInt8) :: ((109 : UInt8) :: ((112 : UInt8) :: ([] : List UInt8)))))))) :: ((ByteArray.mk (@List.toArray UInt8 ((114 : UInt8) :: ((101 : UInt8) :: ((113 : UInt8) :: ((117 : UInt8) :: ((97 : UInt8) :: ((110 : UInt8) :: ((116 : UInt8) :: ([] : List UInt8)))))))))) :: ((ByteArray.mk (@List.toArray UInt8 ((119 : UInt8) :: ((105 : UInt8) :: ((100 : UInt8) :: ((101 : UInt8) :: ((110 : UInt8) :: ([] : List UInt8)))))))) :: ((ByteArray.mk (@List.toArray UInt8 ((109 : UInt8) :: ((97 : UInt8) :: ((116 : UInt8) :: ((109 : UInt8) :: ((117 : UInt8) :: ((108 : UInt8) :: ([] : List UInt8))))))))) :: ((ByteArray.mk (@List.toArray UInt8 ((99 : UInt8) :: ((111 : UInt8) :: ((110 : UInt8) :: ((118 : UInt8) :: ([] : List UInt8))))))) :: ((ByteArray.mk (@List.toArray UInt8 ((109 : UInt8) :: ((97 : UInt8) :: ((120 : UInt8) :: ((112 : UInt8) :: ((111 : UInt8) :: ((111 : UInt8) :: ((108 : UInt8) :: ([] : List UInt8)))))))))) :: ((ByteArray.mk (@List.toArray UInt8 ((97 : UInt8) :: ((118 : UInt8) :: ((103 : UInt8) :: ((112 : UInt8) :: ((111 : UInt8) :: ((111 : UInt8) :: ((108 : UInt8) :: ([] : List UInt8)))))))))) :: ((ByteArray.mk (@List.toArray UInt8 ((115 : UInt8) :: ((111 : UInt8) :: ((102 : UInt8) :: ((116 : UInt8) :: ((109 : UInt8) :: ((97 : UInt8) :: ((120 : UInt8) :: ([] : List UInt8)))))))))) :: ((ByteArray.mk (@List.toArray UInt8 ((103 : UInt8) :: ((97 : UInt8) :: ((116 : UInt8) :: ((104 : UInt8) :: ((101 : UInt8) :: ((114 : UInt8) :: ([] : List UInt8))))))))) :: ((ByteArray.mk (@List.toArray UInt8 ((114 : UInt8) :: ((101 : UInt8) :: ((115 : UInt8) :: ((104 : UInt8) :: ((97 : UInt8) :: ((112 : UInt8) :: ((101 : UInt8) :: ([] : List UInt8)))))))))) :: ((ByteArray.mk (@List.toArray UInt8 ((97 : UInt8) :: ((114 : UInt8) :: ((103 : UInt8) :: ((109 : UInt8) :: ((97 : UInt8) :: ((120 : UInt8) :: ([] : List UInt8))))))))) :: ((ByteArray.mk (@List.toArray UInt8 ((115 : UInt8) :: ((117 : UInt8) :: ((109 : UInt8) :: ([] : List UInt8)))))) :: ((ByteArray.mk (@List.toArray UInt8 ((116 : UInt8) :: ((117 : UInt8) :: ((114 : UInt8) :: ((110 : UInt8) :: ([] : List UInt8))))))) :: ([] : List ByteArray))))))))))))))))))), ())

abbrev c_op_names (N : Nat) : CallSpec := ⟨37, ps_op_names, rs_op_names, fun x => F_op_names N ⟩

theorem cs_op_names_ok (S : Nat → Addr) (N : Nat) : CallsOK Go.Proofs.Tryz.prog E S (cs_op_names N) :=
  .nil
theorem F_op_names_ok (S : Nat → Addr) (N : Nat) : ∀ x y, (c_op_names N).g x = some y → FCon Go.Proofs.Tryz.prog E S 37 ps_op_names rs_op_names x y := by
  intro x y h
  exact fun_spec E_ok mixed (cs_op_names_ok S N) (f := 37) (fi := ⟨b_op_names, 2, Go.Proofs.Tryz.f37.results.toList⟩) (by kernel_rfl) (ls := []) (.nil) (by kernel_rfl) (ps := ps_op_names) (rs := rs_op_names) (Eq.trans (b := F_op_names N ) (by kernel_rfl) h)

/-! lodge/op.Name -/

abbrev ps_op_Name : List Ty := [(.int .i64)]
abbrev rs_op_Name : List Slot := [.data .str]
abbrev cs_op_Name (N : Nat) : List CallSpec := [c_op_Known N, c_op_names N]
noncomputable abbrev b_op_Name : Code := (Go.Proofs.Tryz.f9.body).getD .skip

def F_op_Name (N : Nat) (op_0 : Int) : Option (ByteArray × Unit) :=
  Option.bind (F_op_Known N op_0) fun y0 =>
  cond (Bool.not (y0).1)
    (
    some ((ByteArray.mk (@List.toArray UInt8 ([] : List UInt8))), ()))
    (
    Option.bind (F_op_names N) fun y1 =>
    cond (decide ((0 : Int) ≤ (wi64 (op_0 - (4 : Int)))))
      (
      cond (decide ((Int.toNat (wi64 (op_0 - (4 : Int)))) < (List.length (y1).1)))
        (
        cond (decide (((0 : Nat) + (Int.toNat (wi64 (op_0 - (4 : Int))))) < (List.length (y1).1)))
          (
          some ((List.getD (y1).1 ((0 : Nat) + (Int.toNat (wi64 (op_0 - (4 : Int))))) (dfl Go.Eng.Ty.str)), ()))
          (
          none))
        (
        none))
      (
      none))

abbrev c_op_Name (N : Nat) : CallSpec := ⟨9, ps_op_Name, rs_op_Name, fun x => F_op_Name N x.1⟩

theorem cs_op_Name_ok (S : Nat → Addr) (N : Nat) : CallsOK Go.Proofs.Tryz.prog E S (cs_op_Name N) :=
  .cons (F_op_Known_ok S N) (.cons (F_op_names_ok S N) (.nil))
theorem F_op_Name_ok (S : Nat → Addr) (N : Nat) : ∀ x y, (c_op_Name N).g x = some y → FCon Go.Proofs.Tryz.prog E S 9 ps_op_Name rs_op_Name x y := by
  intro x y h
  exact fun_spec E_ok mixed (cs_op_Name_ok S N) (f := 9) (fi := ⟨b_op_Name, 11, Go.Proofs.Tryz.f9.results.toList⟩) (by kernel_rfl) (ls := []) (.nil) (by kernel_rfl) (ps := ps_op_Name) (rs := rs_op_Name) (Eq.trans (b := F_op_Name N x.1) (by kernel_rfl) h)

/-! slices.Index[[]string,string] -/

abbrev ps_slices_Index_string_string : List Ty := [(.sl .str), .str]
abbrev rs_slices_Index_string_string : List Slot := [.data (.int .i64)]
abbrev cs_slices_Index_string_string (N : Nat) : List CallSpec := []
noncomputable abbrev b_slices_Index_string_string : Code := (Go.Proofs.Tryz.f36.body).getD .skip

abbrev h_slices_Index_string_string_0 : List Slot := [.data (.sl .str), .data .str, .dead, .dead, .dead, .dead, .dead, .data (.int .i64), .data (.int .i64), .dead, .dead, .dead, .dead, .dead, .dead, .dead, .dead, .dead, .dead]
abbrev e_slices_Index_string_string_0 : List (AX × List Slot) := [(AX.exit 0, [.dead, .dead, .dead, .dead, .dead, .dead, .dead, .dead, .dead, .dead, .dead, .dead, .dead, .dead, .dead, .dead, .dead, .dead, .dead]), (AX.ret, [.dead, .dead, .dead, .dead, .data (.int .i64), .dead, .dead, .dead, .dead, .dead, .dead, .dead, .dead, .dead, .dead, .dead, .dead, .dead, .dead])]
def g_slices_Index_string_string_0 (N : Nat) : Nat → List ByteArray → ByteArray → Int → Int → Option (Sum Unit (Int × Unit))
  | 0, _, _, _, _ => none
  | n + 1, s_0, v_1, t_7, t_8 =>
    cond (decide (t_8 < t_7))
      (
      cond (decide ((0 : Int) ≤ t_8))
        (
        cond (decide ((Int.toNat t_8) < (List.length s_0)))
          (
          cond ((ByteArray.toList v_1) == (ByteArray.toList (List.getD s_0 (Int.toNat t_8) (dfl Go.Eng.Ty.str))))
            (
            some (Sum.inr (t_8, ())))
            (
            (g_slices_Index_string_string_0 N n s_0 v_1 t_7 (wi64 (t_8 + (1 : Int))))))
          (
          none))
        (
        none))
      (
      some (Sum.inl ()))

def F_slices_Index_string_string (N : Nat) (s_0 : List ByteArray) (v_1 : ByteArray) : Option (Int × Unit) :=
  Option.bind (g_slices_Index_string_string_0 N N s_0 v_1 (Nat.cast (List.length s_0) : Int) (0 : Int)) fun y0 =>
  Sum.elim (fun y1 =>
    some ((-(1 : Int)), ()))
    (fun y2 =>
    some y2) y0

abbrev c_slices_Index_string_string (N : Nat) : CallSpec := ⟨36, ps_slices_Index_string_string, rs_slices_Index_string_string, fun x => F_slices_Index_string_string N x.1 x.2.1⟩
abbrev l_slices_Index_string_string_0 (N : Nat) : LoopSpec := ⟨0, h_slices_Index_string_string_0, e_slices_Index_string_string_0, fun x => g_slices_Index_string_string_0 N N x.1 x.2.1 x.2.2.1 x.2.2.2.1⟩

theorem cs_slices_Index_string_string_ok (S : Nat → Addr) (N : Nat) : CallsOK Go.Proofs.Tryz.prog E S (cs_slices_Index_string_string N) :=
  .nil
noncomputable abbrev b_slices_Index_string_string_0 : Code := (loopsOf b_slices_Index_string_string).getD 0 .skip
theorem g_slices_Index_string_string_0_ok (S : Nat → Addr) (N : Nat) : ∀ n x y, (fun (x : Val (slotsTy h_slices_Index_string_string_0)) => g_slices_Index_string_string_0 N n x.1 x.2.1 x.2.2.1 x.2.2.2.1) x = some y → LoopCon Go.Proofs.Tryz.prog E S b_slices_Index_string_string_0 (encSlots h_slices_Index_string_string_0 x) (encEx e_slices_Index_string_string_0 y).1 (encEx e_slices_Index_string_string_0 y).2 :=
  loop_spec E_ok mixed (cs_slices_Index_string_string_ok S N) (all := loopsOf b_slices_Index_string_string) (ls := []) (.nil) (i := 0) (by kernel_rfl) (inner_of (by kernel_rfl)) (head := h_slices_Index_string_string_0) (ex := e_slices_Index_string_string_0) (fun n (x : Val (slotsTy h_slices_Index_string_string_0)) => g_slices_Index_string_string_0 N n x.1 x.2.1 x.2.2.1 x.2.2.2.1) (fun _ => rfl) (fun n x => by kernel_rfl)
theorem F_slices_Index_string_string_ok (S : Nat → Addr) (N : Nat) : ∀ x y, (c_slices_Index_string_string N).g x = some y → FCon Go.Proofs.Tryz.prog E S 36 ps_slices_Index_string_string rs_slices_Index_string_string x y := by
  intro x y h
  exact fun_spec E_ok mixed (cs_slices_Index_string_string_ok S N) (f := 36) (fi := ⟨b_slices_Index_string_string, 19, Go.Proofs.Tryz.f36.results.toList⟩) (by kernel_rfl) (ls := [l_slices_Index_string_string_0 N]) (.cons (by kernel_rfl) (g_slices_Index_string_string_0_ok S N N) (.nil)) (by kernel_rfl) (ps := ps_slices_Index_string_string) (rs := rs_slices_Index_string_string) (Eq.trans (b := F_slices_Index_string_string N x.1 x.2.1) (by kernel_rfl) h)

/-! lodge/op.Named -/

abbrev ps_op_Named : List Ty := [.str]
abbrev rs_op_Named : List Slot := [.data (.int .i64), .data .bool]
abbrev cs_op_Named (N : Nat) : List CallSpec := [c_op_names N, c_slices_Index_string_string N]
noncomputable abbrev b_op_Named : Code := (Go.Proofs.Tryz.f8.body).getD .skip

def F_op_Named (N : Nat) (s_0 : ByteArray) : Option (Int × (Bool × Unit)) :=
  Option.bind (F_op_names N) fun y0 =>
  cond (decide (((0 : Nat) + (List.length (y0).1)) ≤ (List.length (y0).1)))
    (
    Option.bind (F_slices_Index_string_string N (List.take (List.length (y0).1) (y0).1) s_0) fun y1 =>
    cond (decide ((y1).1 < (0 : Int)))
      (
      some ((0 : Int), (false, ())))
      (
      some ((wi64 ((y1).1 + (4 : Int))), (true, ()))))
    (
    none)

abbrev c_op_Named (N : Nat) : CallSpec := ⟨8, ps_op_Named, rs_op_Named, fun x => F_op_Named N x.1⟩

theorem cs_op_Named_ok (S : Nat → Addr) (N : Nat) : CallsOK Go.Proofs.Tryz.prog E S (cs_op_Named N) :=
  .cons (F_op_names_ok S N) (.cons (F_slices_Index_string_string_ok S N) (.nil))
theorem F_op_Named_ok (S : Nat → Addr) (N : Nat) : ∀ x y, (c_op_Named N).g x = some y → FCon Go.Proofs.Tryz.prog E S 8 ps_op_Named rs_op_Named x y := by
  intro x y h
  exact fun_spec E_ok mixed (cs_op_Named_ok S N) (f := 8) (fi := ⟨b_op_Named, 12, Go.Proofs.Tryz.f8.results.toList⟩) (by kernel_rfl) (ls := []) (.nil) (by kernel_rfl) (ps := ps_op_Named) (rs := rs_op_Named) (Eq.trans (b := F_op_Named N x.1) (by kernel_rfl) h)

/-! lodge/lodgesee.sentinels -/

abbrev ps_lodgesee_sentinels : List Ty := []
abbrev rs_lodgesee_sentinels : List Slot := [.sl .err]
abbrev cs_lodgesee_sentinels (N : Nat) : List CallSpec := []
noncomputable abbrev b_lodgesee_sentinels : Code := (Go.Proofs.Tryz.f94.body).getD .skip

def F_lodgesee_sentinels (N : Nat)  : Option (List Er × Unit) :=
  some (((Go.Eng.Er.s ErrShape) :: ((Go.Eng.Er.s ErrRange) :: ((Go.Eng.Er.s ErrKind) :: ((Go.Eng.Er.s ErrMany) :: ((Go.Eng.Er.s ErrEnd) :: ((Go.Eng.Er.s ErrRoom) :: ((Go.Eng.Er.s ErrNone) :: ((Go.Eng.Er.s ErrAlias) :: ((Go.Eng.Er.s ErrCost) :: ((Go.Eng.Er.s ErrJump) :: ((Go.Eng.Er.s ErrCycle) :: ((Go.Eng.Er.s ErrFuel) :: ((Go.Eng.Er.s ErrFull) :: ((Go.Eng.Er.s ErrQuota) :: ((Go.Eng.Er.s ErrCap) :: ((Go.Eng.Er.s ErrStale) :: ((Go.Eng.Er.s ErrTag) :: ((Go.Eng.Er.s ErrOld) :: ((Go.Eng.Er.s ErrTenant) :: ((Go.Eng.Er.s ErrWord) :: ((Go.Eng.Er.s ErrNumber) :: ([] : List Go.Eng.Er)))))))))))))))))))))), ())

abbrev c_lodgesee_sentinels (N : Nat) : CallSpec := ⟨94, ps_lodgesee_sentinels, rs_lodgesee_sentinels, fun x => F_lodgesee_sentinels N ⟩

theorem cs_lodgesee_sentinels_ok (S : Nat → Addr) (N : Nat) : CallsOK Go.Proofs.Tryz.prog E S (cs_lodgesee_sentinels N) :=
  .nil
theorem F_lodgesee_sentinels_ok (S : Nat → Addr) (N : Nat) : ∀ x y, (c_lodgesee_sentinels N).g x = some y → FCon Go.Proofs.Tryz.prog E S 94 ps_lodgesee_sentinels rs_lodgesee_sentinels x y := by
  intro x y h
  exact fun_spec E_ok mixed (cs_lodgesee_sentinels_ok S N) (f := 94) (fi := ⟨b_lodgesee_sentinels, 23, Go.Proofs.Tryz.f94.results.toList⟩) (by kernel_rfl) (ls := []) (.nil) (by kernel_rfl) (ps := ps_lodgesee_sentinels) (rs := rs_lodgesee_sentinels) (Eq.trans (b := F_lodgesee_sentinels N ) (by kernel_rfl) h)

/-! lodge/lodgesee.Alike -/

abbrev ps_lodgesee_Alike : List Ty := [.err, .err]
abbrev rs_lodgesee_Alike : List Slot := [.data .bool]
abbrev cs_lodgesee_Alike (N : Nat) : List CallSpec := []
noncomputable abbrev b_lodgesee_Alike : Code := (Go.Proofs.Tryz.f95.body).getD .skip

def F_lodgesee_Alike (N : Nat) (a_0 : Er) (b_1 : Er) : Option (Bool × Unit) :=
  cond (Go.Eng.Er.isNil a_0)
    (
    cond (Go.Eng.Er.isNil a_0)
      (
      some ((Go.Eng.Er.isNil b_1), ()))
      (
      some (false, ())))
    (
    cond (Go.Eng.Er.isNil b_1)
      (
      cond (Go.Eng.Er.isNil a_0)
        (
        some ((Go.Eng.Er.isNil b_1), ()))
        (
        some (false, ())))
      (
      cond (Go.Eng.okEq a_0 b_1)
        (
        some ((decide (a_0 = b_1)), ()))
        (
        none)))

abbrev c_lodgesee_Alike (N : Nat) : CallSpec := ⟨95, ps_lodgesee_Alike, rs_lodgesee_Alike, fun x => F_lodgesee_Alike N x.1 x.2.1⟩

theorem cs_lodgesee_Alike_ok (S : Nat → Addr) (N : Nat) : CallsOK Go.Proofs.Tryz.prog E S (cs_lodgesee_Alike N) :=
  .nil
theorem F_lodgesee_Alike_ok (S : Nat → Addr) (N : Nat) : ∀ x y, (c_lodgesee_Alike N).g x = some y → FCon Go.Proofs.Tryz.prog E S 95 ps_lodgesee_Alike rs_lodgesee_Alike x y := by
  intro x y h
  exact fun_spec E_ok mixed (cs_lodgesee_Alike_ok S N) (f := 95) (fi := ⟨b_lodgesee_Alike, 20, Go.Proofs.Tryz.f95.results.toList⟩) (by kernel_rfl) (ls := []) (.nil) (by kernel_rfl) (ps := ps_lodgesee_Alike) (rs := rs_lodgesee_Alike) (Eq.trans (b := F_lodgesee_Alike N x.1 x.2.1) (by kernel_rfl) h)

/-! lodge/lodgesee.sentinel -/

abbrev ps_lodgesee_sentinel : List Ty := [.err]
abbrev rs_lodgesee_sentinel : List Slot := [.data (.int .i64)]
abbrev cs_lodgesee_sentinel (N : Nat) : List CallSpec := [c_lodgesee_sentinels N, c_lodgesee_Alike N]
noncomputable abbrev b_lodgesee_sentinel : Code := (Go.Proofs.Tryz.f71.body).getD .skip

abbrev h_lodgesee_sentinel_0 : List Slot := [.data .err, .dead, .dead, .sl .err, .data (.int .i64), .dead, .dead, .dead, .dead, .dead, .dead, .dead, .dead, .dead, .dead, .dead, .dead, .dead, .dead, .dead]
abbrev e_lodgesee_sentinel_0 : List (AX × List Slot) := [(AX.exit 0, [.dead, .dead, .dead, .dead, .dead, .dead, .dead, .dead, .dead, .dead, .dead, .dead, .dead, .dead, .dead, .dead, .dead, .dead, .dead, .dead]), (AX.ret, [.dead, .dead, .data (.int .i64), .dead, .dead, .dead, .dead, .dead, .dead, .dead, .dead, .dead, .dead, .dead, .dead, .dead, .dead, .dead, .dead, .dead])]
def g_lodgesee_sentinel_0 (N : Nat) : Nat → Er → List Er → Int → Option (Sum Unit (Int × Unit))
  | 0, _, _, _ => none
  | n + 1, e_0, l_3, i_4 =>
    cond (decide (i_4 < (Nat.cast (List.length l_3) : Int)))
      (
      cond (decide ((0 : Int) ≤ i_4))
        (
        cond (decide ((Int.toNat i_4) < (List.length l_3)))
          (
          cond (decide (((0 : Nat) + (Int.toNat i_4)) < (List.length l_3)))
            (
            Option.bind (F_lodgesee_Alike N e_0 (List.getD l_3 ((0 : Nat) + (Int.toNat i_4)) Go.Eng.Er.nil)) fun y2 =>
            cond (y2).1
              (
              some (Sum.inr ((wi64 ((101 : Int) + i_4)), ())))
              (
              cond (decide ((List.length l_3) = (List.length l_3)))
                (
                (g_lodgesee_sentinel_0 N n e_0 l_3 (wi64 (i_4 + (1 : Int)))))
                (
                none)))
            (
            none))
          (
          none))
        (
        none))
      (
      some (Sum.inl ()))

def F_lodgesee_sentinel (N : Nat) (e_0 : Er) : Option (Int × Unit) :=
  Option.bind (F_lodgesee_sentinels N) fun y0 =>
  cond (decide ((List.length (y0).1) = (List.length (y0).1)))
    (
    Option.bind (g_lodgesee_sentinel_0 N N e_0 (y0).1 (0 : Int)) fun y1 =>
    Sum.elim (fun y2 =>
      some ((-(1 : Int)), ()))
      (fun y3 =>
      some y3) y1)
    (
    none)

abbrev c_lodgesee_sentinel (N : Nat) : CallSpec := ⟨71, ps_lodgesee_sentinel, rs_lodgesee_sentinel, fun x => F_lodgesee_sentinel N x.1⟩
abbrev l_lodgesee_sentinel_0 (N : Nat) : LoopSpec := ⟨0, h_lodgesee_sentinel_0, e_lodgesee_sentinel_0, fun x => g_lodgesee_sentinel_0 N N x.1 x.2.1 x.2.2.1⟩

theorem cs_lodgesee_sentinel_ok (S : Nat → Addr) (N : Nat) : CallsOK Go.Proofs.Tryz.prog E S (cs_lodgesee_sentinel N) :=
  .cons (F_lodgesee_sentinels_ok S N) (.cons (F_lodgesee_Alike_ok S N) (.nil))
noncomputable abbrev b_lodgesee_sentinel_0 : Code := (loopsOf b_lodgesee_sentinel).getD 0 .skip
theorem g_lodgesee_sentinel_0_ok (S : Nat → Addr) (N : Nat) : ∀ n x y, (fun (x : Val (slotsTy h_lodgesee_sentinel_0)) => g_lodgesee_sentinel_0 N n x.1 x.2.1 x.2.2.1) x = some y → LoopCon Go.Proofs.Tryz.prog E S b_lodgesee_sentinel_0 (encSlots h_lodgesee_sentinel_0 x) (encEx e_lodgesee_sentinel_0 y).1 (encEx e_lodgesee_sentinel_0 y).2 :=
  loop_spec E_ok mixed (cs_lodgesee_sentinel_ok S N) (all := loopsOf b_lodgesee_sentinel) (ls := []) (.nil) (i := 0) (by kernel_rfl) (inner_of (by kernel_rfl)) (head := h_lodgesee_sentinel_0) (ex := e_lodgesee_sentinel_0) (fun n (x : Val (slotsTy h_lodgesee_sentinel_0)) => g_lodgesee_sentinel_0 N n x.1 x.2.1 x.2.2.1) (fun _ => rfl) (fun n x => by kernel_rfl)
theorem F_lodgesee_sentinel_ok (S : Nat → Addr) (N : Nat) : ∀ x y, (c_lodgesee_sentinel N).g x = some y → FCon Go.Proofs.Tryz.prog E S 71 ps_lodgesee_sentinel rs_lodgesee_sentinel x y := by
  intro x y h
  exact fun_spec E_ok mixed (cs_lodgesee_sentinel_ok S N) (f := 71) (fi := ⟨b_lodgesee_sentinel, 20, Go.Proofs.Tryz.f71.results.toList⟩) (by kernel_rfl) (ls := [l_lodgesee_sentinel_0 N]) (.cons (by kernel_rfl) (g_lodgesee_sentinel_0_ok S N N) (.nil)) (by kernel_rfl) (ps := ps_lodgesee_sentinel) (rs := rs_lodgesee_sentinel) (Eq.trans (b := F_lodgesee_sentinel N x.1) (by kernel_rfl) h)

/-! lodge/lodgesee.Fault -/

abbrev ps_lodgesee_Fault : List Ty := [.err]
abbrev rs_lodgesee_Fault : List Slot := [.data (.st (.pair (.int .i64) (.pair .bool (.int .i64))))]
abbrev cs_lodgesee_Fault (N : Nat) : List CallSpec := [c_lodgeref_Bare N, c_lodgeref_None N, c_lodgeref_Placed N, c_lodgesee_sentinel N]
noncomputable abbrev b_lodgesee_Fault : Code := (Go.Proofs.Tryz.f39.body).getD .skip

def F_lodgesee_Fault (N : Nat) (e_0 : Er) : Option ((Int × (Bool × Int)) × Unit) :=
  cond (Go.Eng.Er.isNil e_0)
    (
    Option.bind (F_lodgeref_None N) fun y0 =>
    some y0)
    (
    cond (Go.Eng.Er.isAt e_0)
      (
      Option.bind (F_lodgesee_sentinel N (Go.Eng.Er.s (Go.Eng.Er.gix e_0))) fun y1 =>
      Option.bind (F_lodgeref_Placed N (y1).1 (Go.Eng.Er.pos e_0)) fun y2 =>
      some y2)
      (
      Option.bind (F_lodgesee_sentinel N e_0) fun y3 =>
      Option.bind (F_lodgeref_Bare N (y3).1) fun y4 =>
      some y4))

abbrev c_lodgesee_Fault (N : Nat) : CallSpec := ⟨39, ps_lodgesee_Fault, rs_lodgesee_Fault, fun x => F_lodgesee_Fault N x.1⟩

theorem cs_lodgesee_Fault_ok (S : Nat → Addr) (N : Nat) : CallsOK Go.Proofs.Tryz.prog E S (cs_lodgesee_Fault N) :=
  .cons (F_lodgeref_Bare_ok S N) (.cons (F_lodgeref_None_ok S N) (.cons (F_lodgeref_Placed_ok S N) (.cons (F_lodgesee_sentinel_ok S N) (.nil))))
theorem F_lodgesee_Fault_ok (S : Nat → Addr) (N : Nat) : ∀ x y, (c_lodgesee_Fault N).g x = some y → FCon Go.Proofs.Tryz.prog E S 39 ps_lodgesee_Fault rs_lodgesee_Fault x y := by
  intro x y h
  exact fun_spec E_ok mixed (cs_lodgesee_Fault_ok S N) (f := 39) (fi := ⟨b_lodgesee_Fault, 38, Go.Proofs.Tryz.f39.results.toList⟩) (by kernel_rfl) (ls := []) (.nil) (by kernel_rfl) (ps := ps_lodgesee_Fault) (rs := rs_lodgesee_Fault) (Eq.trans (b := F_lodgesee_Fault N x.1) (by kernel_rfl) h)

/-! lodge/lodgeref.SameFault -/

abbrev ps_lodgeref_SameFault : List Ty := [(.st (.pair (.int .i64) (.pair .bool (.int .i64)))), (.st (.pair (.int .i64) (.pair .bool (.int .i64))))]
abbrev rs_lodgeref_SameFault : List Slot := [.data .bool]
abbrev cs_lodgeref_SameFault (N : Nat) : List CallSpec := []
noncomputable abbrev b_lodgeref_SameFault : Code := (Go.Proofs.Tryz.f38.body).getD .skip

def F_lodgeref_SameFault (N : Nat) (a_0 : (Int × (Bool × Int))) (b_1 : (Int × (Bool × Int))) : Option (Bool × Unit) :=
  cond (decide ((a_0).1 = (b_1).1))
    (
    cond (((a_0).2).1 == ((b_1).2).1)
      (
      some ((decide (((a_0).2).2 = ((b_1).2).2)), ()))
      (
      some (false, ())))
    (
    some (false, ()))

abbrev c_lodgeref_SameFault (N : Nat) : CallSpec := ⟨38, ps_lodgeref_SameFault, rs_lodgeref_SameFault, fun x => F_lodgeref_SameFault N x.1 x.2.1⟩

theorem cs_lodgeref_SameFault_ok (S : Nat → Addr) (N : Nat) : CallsOK Go.Proofs.Tryz.prog E S (cs_lodgeref_SameFault N) :=
  .nil
theorem F_lodgeref_SameFault_ok (S : Nat → Addr) (N : Nat) : ∀ x y, (c_lodgeref_SameFault N).g x = some y → FCon Go.Proofs.Tryz.prog E S 38 ps_lodgeref_SameFault rs_lodgeref_SameFault x y := by
  intro x y h
  exact fun_spec E_ok mixed (cs_lodgeref_SameFault_ok S N) (f := 38) (fi := ⟨b_lodgeref_SameFault, 24, Go.Proofs.Tryz.f38.results.toList⟩) (by kernel_rfl) (ls := []) (.nil) (by kernel_rfl) (ps := ps_lodgeref_SameFault) (rs := rs_lodgeref_SameFault) (Eq.trans (b := F_lodgeref_SameFault N x.1 x.2.1) (by kernel_rfl) h)

/-! lodge/lodgesee.Same -/

abbrev ps_lodgesee_Same : List Ty := [.err, (.st (.pair (.int .i64) (.pair .bool (.int .i64))))]
abbrev rs_lodgesee_Same : List Slot := [.data .bool]
abbrev cs_lodgesee_Same (N : Nat) : List CallSpec := [c_lodgesee_Fault N, c_lodgeref_SameFault N]
noncomputable abbrev b_lodgesee_Same : Code := (Go.Proofs.Tryz.f11.body).getD .skip

def F_lodgesee_Same (N : Nat) (e_0 : Er) (f_1 : (Int × (Bool × Int))) : Option (Bool × Unit) :=
  Option.bind (F_lodgesee_Fault N e_0) fun y0 =>
  Option.bind (F_lodgeref_SameFault N (y0).1 f_1) fun y1 =>
  some y1

abbrev c_lodgesee_Same (N : Nat) : CallSpec := ⟨11, ps_lodgesee_Same, rs_lodgesee_Same, fun x => F_lodgesee_Same N x.1 x.2.1⟩

theorem cs_lodgesee_Same_ok (S : Nat → Addr) (N : Nat) : CallsOK Go.Proofs.Tryz.prog E S (cs_lodgesee_Same N) :=
  .cons (F_lodgesee_Fault_ok S N) (.cons (F_lodgeref_SameFault_ok S N) (.nil))
theorem F_lodgesee_Same_ok (S : Nat → Addr) (N : Nat) : ∀ x y, (c_lodgesee_Same N).g x = some y → FCon Go.Proofs.Tryz.prog E S 11 ps_lodgesee_Same rs_lodgesee_Same x y := by
  intro x y h
  exact fun_spec E_ok mixed (cs_lodgesee_Same_ok S N) (f := 11) (fi := ⟨b_lodgesee_Same, 9, Go.Proofs.Tryz.f11.results.toList⟩) (by kernel_rfl) (ls := []) (.nil) (by kernel_rfl) (ps := ps_lodgesee_Same) (rs := rs_lodgesee_Same) (Eq.trans (b := F_lodgesee_Same N x.1 x.2.1) (by kernel_rfl) h)

/-! lodge/lodgeref.SameTensor -/

abbrev ps_lodgeref_SameTensor : List Ty := [(.st (.pair (.st (.pair (.sl (.int .i64)) .bool)) (.sl (.int .i64)))), (.st (.pair (.st (.pair (.sl (.int .i64)) .bool)) (.sl (.int .i64))))]
abbrev rs_lodgeref_SameTensor : List Slot := [.data .bool]
abbrev cs_lodgeref_SameTensor (N : Nat) : List CallSpec := [c_lodgeref_SameInts N, c_lodgeref_SameDesc N]
noncomputable abbrev b_lodgeref_SameTensor : Code := (Go.Proofs.Tryz.f12.body).getD .skip

def F_lodgeref_SameTensor (N : Nat) (a_0 : ((List Int × Bool) × List Int)) (b_1 : ((List Int × Bool) × List Int)) : Option (Bool × Unit) :=
  Option.bind (F_lodgeref_SameDesc N (a_0).1 (b_1).1) fun y0 =>
  Option.bind (F_lodgeref_SameInts N (a_0).2 (b_1).2) fun y1 =>
  cond (y0).1
    (
    some y1)
    (
    some (false, ()))

abbrev c_lodgeref_SameTensor (N : Nat) : CallSpec := ⟨12, ps_lodgeref_SameTensor, rs_lodgeref_SameTensor, fun x => F_lodgeref_SameTensor N x.1 x.2.1⟩

theorem cs_lodgeref_SameTensor_ok (S : Nat → Addr) (N : Nat) : CallsOK Go.Proofs.Tryz.prog E S (cs_lodgeref_SameTensor N) :=
  .cons (F_lodgeref_SameInts_ok S N) (.cons (F_lodgeref_SameDesc_ok S N) (.nil))
theorem F_lodgeref_SameTensor_ok (S : Nat → Addr) (N : Nat) : ∀ x y, (c_lodgeref_SameTensor N).g x = some y → FCon Go.Proofs.Tryz.prog E S 12 ps_lodgeref_SameTensor rs_lodgeref_SameTensor x y := by
  intro x y h
  exact fun_spec E_ok mixed (cs_lodgeref_SameTensor_ok S N) (f := 12) (fi := ⟨b_lodgeref_SameTensor, 21, Go.Proofs.Tryz.f12.results.toList⟩) (by kernel_rfl) (ls := []) (.nil) (by kernel_rfl) (ps := ps_lodgeref_SameTensor) (rs := rs_lodgeref_SameTensor) (Eq.trans (b := F_lodgeref_SameTensor N x.1 x.2.1) (by kernel_rfl) h)

/-! lodge/lodgeref3.names -/

abbrev ps_lodgeref3_names : List Ty := []
abbrev rs_lodgeref3_names : List Slot := [.sl .str]
abbrev cs_lodgeref3_names (N : Nat) : List CallSpec := []
noncomputable abbrev b_lodgeref3_names : Code := (Go.Proofs.Tryz.f42.body).getD .skip

def F_lodgeref3_names (N : Nat)  : Option (List ByteArray × Unit) :=
  some (((ByteArray.mk (@List.toArray UInt8 ((97 : UInt8) :: ((100 : UInt8) :: ((100 : UInt8) :: ([] : List UInt8)))))) :: ((ByteArray.mk (@List.toArray UInt8 ((115 : UInt8) :: ((117 : UInt8) :: ((98 : UInt8) :: ([] : List UInt8)))))) :: ((ByteArray.mk (@List.toArray UInt8 ((109 : UInt8) :: ((117 : UInt8) :: ((108 : UInt8) :: ([] : List UInt8)))))) :: ((ByteArray.mk (@List.toArray UInt8 ((109 : UInt8) :: ((97 : UInt8) :: ((120 : UInt8) :: ([] : List UInt8)))))) :: ((ByteArray.mk (@List.toArray UInt8 ((114 : UInt8) :: ((101 : UInt8) :: ((108 : UInt8) :: ((117 : UInt8) :: ([] : List UInt8))))))) :: ((ByteArray.mk (@List.toArray UInt8 ((99 : UInt8) :: ((108 : UInt8) :: ((97 : UInt8) :: ((109 : UInt8) :: ((112 : UInt8) :: ([] : List UInt8)))))))) :: ((ByteArray.mk (@List.toArray UInt8 ((114 : UInt8) :: ((101 : UInt8) :: ((113 : UInt8) :: ((117 : UInt8) :: ((97 : UInt8) :: ((110 : UInt8) :: ((116 : UInt8) :: ([] : List UInt8)))))))))) :: ((ByteArray.mk (@List.toArray UInt8 ((119 : UInt8) :: ((105 : UInt8) :: ((100 : UInt8) :: ((101 : UInt8) :: ((110 : UInt8) :: ([] : List UInt8)))))))) :: ((ByteArray.mk (@List.toArray UInt8 ((109 : UInt8) :: ((97 : UInt8) :: ((116 : UInt8) :: ((109 : UInt8) :: ((117 : UInt8) :: ((108 : UInt8) :: ([] : List UInt8))))))))) :: ((ByteArray.mk (@List.toArray UInt8 ((99 : UInt8) :: ((111 : UInt8) :: ((110 : UInt8) :: ((118 : UInt8) :: ([] : List UInt8))))))) :: ((ByteArray.mk (@List.toArray UInt8 ((109 : UInt8) :: ((97 : UInt8) :: ((120 : UInt8) :: ((112 : UInt8) :: ((111 : UInt8) :: ((111 : UInt8) :: ((108 : UInt8) :: ([] : List UInt8)))))))))) :: ((ByteArray.mk (@List.toArray UInt8 ((97 : UInt8) :: ((118 : UInt8) :: ((103 : UInt8) :: ((112 : UInt8) :: ((111 : UInt8) :: ((111 : UInt8) :: ((108 : UInt8) :: ([] : List UInt8)))))))))) :: ((ByteArray.mk (@List.toArray UInt8 ((115 : UInt8) :: ((111 : UInt8) :: ((102 : UInt8) :: ((116 : UInt8) :: ((109 : UInt8) :: ((97 : UInt8) :: ((120 : UInt8) :: ([] : List UInt8)))))))))) :: ((ByteArray.mk (@List.toArray UInt8 ((103 : UInt8) :: ((97 : UInt8) :: ((116 : UInt8) :: ((104 : UInt8) :: ((101 : UInt8) :: ((114 : UInt8) :: ([] : List UInt8))))))))) :: ((ByteArray.mk (@List.toArray UInt8 ((114 : UInt8) :: ((101 : UInt8) :: ((115 : UInt8) :: ((104 : UInt8) :: ((97 : UInt8) :: ((112 : UInt8) :: ((101 : UInt8) :: ([] : List UInt8)))))))))) :: ((ByteArray.mk (@List.toArray UInt8 ((97 : UInt8) :: ((114 : UInt8) :: ((103 : UInt8) :: ((109 : UInt8) :: ((97 : UInt8) :: ((120 : UInt8) :: ([] : List UInt8))))))))) :: ((ByteArray.mk (@List.toArray UInt8 ((115 : UInt8) :: ((117 : UInt8) :: ((109 : UInt8) :: ([] : List UInt8)))))) :: ((ByteArray.mk (@List.toArray UInt8 ((116 : UInt8) :: ((117 : UInt8) :: ((114 : UInt8) :: ((110 : UInt8) :: ([] : List UInt8))))))) :: ([] : List ByteArray))))))))))))))))))), ())

abbrev c_lodgeref3_names (N : Nat) : CallSpec := ⟨42, ps_lodgeref3_names, rs_lodgeref3_names, fun x => F_lodgeref3_names N ⟩

theorem cs_lodgeref3_names_ok (S : Nat → Addr) (N : Nat) : CallsOK Go.Proofs.Tryz.prog E S (cs_lodgeref3_names N) :=
  .nil
theorem F_lodgeref3_names_ok (S : Nat → Addr) (N : Nat) : ∀ x y, (c_lodgeref3_names N).g x = some y → FCon Go.Proofs.Tryz.prog E S 42 ps_lodgeref3_names rs_lodgeref3_names x y := by
  intro x y h
  exact fun_spec E_ok mixed (cs_lodgeref3_names_ok S N) (f := 42) (fi := ⟨b_lodgeref3_names, 2, Go.Proofs.Tryz.f42.results.toList⟩) (by kernel_rfl) (ls := []) (.nil) (by kernel_rfl) (ps := ps_lodgeref3_names) (rs := rs_lodgeref3_names) (Eq.trans (b := F_lodgeref3_names N ) (by kernel_rfl) h)

/-! lodge/lodgeref3.Name -/

abbrev ps_lodgeref3_Name : List Ty := [(.int .i64)]
abbrev rs_lodgeref3_Name : List Slot := [.data .str]
abbrev cs_lodgeref3_Name (N : Nat) : List CallSpec := [c_lodgeref3_Known N, c_lodgeref3_names N]
noncomputable abbrev b_lodgeref3_Name : Code := (Go.Proofs.Tryz.f18.body).getD .skip

def F_lodgeref3_Name (N : Nat) (op_0 : Int) : Option (ByteArray × Unit) :=
  Option.bind (F_lodgeref3_Known N op_0) fun y0 =>
  cond (Bool.not (y0).1)
    (
    some ((ByteArray.mk (@List.toArray UInt8 ([] : List UInt8))), ()))
    (
    Option.bind (F_lodgeref3_names N) fun y1 =>
    cond (decide ((0 : Int) ≤ (wi64 (op_0 - (4 : Int)))))
      (
      cond (decide ((Int.toNat (wi64 (op_0 - (4 : Int)))) < (List.length (y1).1)))
        (
        cond (decide (((0 : Nat) + (Int.toNat (wi64 (op_0 - (4 : Int))))) < (List.length (y1).1)))
          (
          some ((List.getD (y1).1 ((0 : Nat) + (Int.toNat (wi64 (op_0 - (4 : Int))))) (dfl Go.Eng.Ty.str)), ()))
          (
          none))
        (
        none))
      (
      none))

abbrev c_lodgeref3_Name (N : Nat) : CallSpec := ⟨18, ps_lodgeref3_Name, rs_lodgeref3_Name, fun x => F_lodgeref3_Name N x.1⟩

theorem cs_lodgeref3_Name_ok (S : Nat → Addr) (N : Nat) : CallsOK Go.Proofs.Tryz.prog E S (cs_lodgeref3_Name N) :=
  .cons (F_lodgeref3_Known_ok S N) (.cons (F_lodgeref3_names_ok S N) (.nil))
theorem F_lodgeref3_Name_ok (S : Nat → Addr) (N : Nat) : ∀ x y, (c_lodgeref3_Name N).g x = some y → FCon Go.Proofs.Tryz.prog E S 18 ps_lodgeref3_Name rs_lodgeref3_Name x y := by
  intro x y h
  exact fun_spec E_ok mixed (cs_lodgeref3_Name_ok S N) (f := 18) (fi := ⟨b_lodgeref3_Name, 11, Go.Proofs.Tryz.f18.results.toList⟩) (by kernel_rfl) (ls := []) (.nil) (by kernel_rfl) (ps := ps_lodgeref3_Name) (rs := rs_lodgeref3_Name) (Eq.trans (b := F_lodgeref3_Name N x.1) (by kernel_rfl) h)

/-! lodge/op.Element -/

abbrev ps_op_Element : List Ty := [(.int .i64), (.sl (.int .i64)), (.int .i64), (.sl (.st (.pair (.st (.pair (.sl (.int .i64)) .bool)) (.sl (.int .i64)))))]
abbrev rs_op_Element : List Slot := [.data (.int .i64)]
abbrev cs_op_Element (N : Nat) : List CallSpec := [c_shape_Elems N, c_op_result N, c_op_reads N, c_op_At N]
noncomputable abbrev b_op_Element : Code := (Go.Proofs.Tryz.f19.body).getD .skip

def F_op_Element (N : Nat) (op_0 : Int) (args_1 : List Int) (i_2 : Int) (ins_3 : List (((List Int × Bool) × List Int))) : Option (Int × Unit) :=
  Option.bind (F_op_result N op_0 args_1 ins_3) fun y0 =>
  cond (Bool.not (Go.Eng.Er.isNil (((y0).2).2).1))
    (
    some ((0 : Int), ()))
    (
    cond (decide (i_2 < (0 : Int)))
      (
      some ((0 : Int), ()))
      (
      Option.bind (F_shape_Elems N ((y0).1).1) fun y1 =>
      cond (decide ((y1).1 ≤ i_2))
        (
        some ((0 : Int), ()))
        (
        Option.bind (F_op_reads N ins_3) fun y2 =>
        cond (decide (((0 : Nat) + (List.length (y2).1)) ≤ (List.length (y2).1)))
          (
          Option.bind (F_op_At N op_0 args_1 i_2 (y0).1 ((y0).2).1 (List.take (List.length (y2).1) (y2).1)) fun y3 =>
          some y3)
          (
          none))))

abbrev c_op_Element (N : Nat) : CallSpec := ⟨19, ps_op_Element, rs_op_Element, fun x => F_op_Element N x.1 x.2.1 x.2.2.1 x.2.2.2.1⟩

theorem cs_op_Element_ok (S : Nat → Addr) (N : Nat) : CallsOK Go.Proofs.Tryz.prog E S (cs_op_Element N) :=
  .cons (F_shape_Elems_ok S N) (.cons (F_op_result_ok S N) (.cons (F_op_reads_ok S N) (.cons (F_op_At_ok S N) (.nil))))
theorem F_op_Element_ok (S : Nat → Addr) (N : Nat) : ∀ x y, (c_op_Element N).g x = some y → FCon Go.Proofs.Tryz.prog E S 19 ps_op_Element rs_op_Element x y := by
  intro x y h
  exact fun_spec E_ok mixed (cs_op_Element_ok S N) (f := 19) (fi := ⟨b_op_Element, 41, Go.Proofs.Tryz.f19.results.toList⟩) (by kernel_rfl) (ls := []) (.nil) (by kernel_rfl) (ps := ps_op_Element) (rs := rs_op_Element) (Eq.trans (b := F_op_Element N x.1 x.2.1 x.2.2.1 x.2.2.2.1) (by kernel_rfl) h)

/-! lodge/lodgeref3.Good -/

abbrev ps_lodgeref3_Good : List Ty := [(.st (.pair (.st (.pair (.sl (.int .i64)) .bool)) (.sl (.int .i64))))]
abbrev rs_lodgeref3_Good : List Slot := [.data .bool]
abbrev cs_lodgeref3_Good (N : Nat) : List CallSpec := [c_lodgeref3_Valid N]
noncomputable abbrev b_lodgeref3_Good : Code := (Go.Proofs.Tryz.f43.body).getD .skip

def F_lodgeref3_Good (N : Nat) (t_0 : ((List Int × Bool) × List Int)) : Option (Bool × Unit) :=
  Option.bind (F_lodgeref3_Valid N t_0) fun y0 =>
  some ((decide (((y0).1).1 = (0 : Int))), ())

abbrev c_lodgeref3_Good (N : Nat) : CallSpec := ⟨43, ps_lodgeref3_Good, rs_lodgeref3_Good, fun x => F_lodgeref3_Good N x.1⟩

theorem cs_lodgeref3_Good_ok (S : Nat → Addr) (N : Nat) : CallsOK Go.Proofs.Tryz.prog E S (cs_lodgeref3_Good N) :=
  .cons (F_lodgeref3_Valid_ok S N) (.nil)
theorem F_lodgeref3_Good_ok (S : Nat → Addr) (N : Nat) : ∀ x y, (c_lodgeref3_Good N).g x = some y → FCon Go.Proofs.Tryz.prog E S 43 ps_lodgeref3_Good rs_lodgeref3_Good x y := by
  intro x y h
  exact fun_spec E_ok mixed (cs_lodgeref3_Good_ok S N) (f := 43) (fi := ⟨b_lodgeref3_Good, 7, Go.Proofs.Tryz.f43.results.toList⟩) (by kernel_rfl) (ls := []) (.nil) (by kernel_rfl) (ps := ps_lodgeref3_Good) (rs := rs_lodgeref3_Good) (Eq.trans (b := F_lodgeref3_Good N x.1) (by kernel_rfl) h)

/-! lodge/lodgeref3.Element -/

abbrev ps_lodgeref3_Element : List Ty := [(.int .i64), (.sl (.int .i64)), (.int .i64), (.sl (.st (.pair (.st (.pair (.sl (.int .i64)) .bool)) (.sl (.int .i64)))))]
abbrev rs_lodgeref3_Element : List Slot := [.data (.int .i64)]
abbrev cs_lodgeref3_Element (N : Nat) : List CallSpec := [c_lodgeref3_Elems N, c_lodgeref3_Result N, c_lodgeref3_descsOf N, c_lodgeref3_element N, c_lodgeref3_Good N]
noncomputable abbrev b_lodgeref3_Element : Code := (Go.Proofs.Tryz.f20.body).getD .skip

abbrev h_lodgeref3_Element_0 : List Slot := [.data (.int .i64), .data (.sl (.int .i64)), .data (.int .i64), .data (.sl (.st (.pair (.st (.pair (.sl (.int .i64)) .bool)) (.sl (.int .i64))))), .dead, .dead, .dead, .dead, .dead, .data (.int .i64), .dead, .dead, .dead, .dead, .dead, .dead, .dead, .dead, .dead, .dead, .dead, .dead, .dead, .dead, .dead, .dead, .dead, .dead, .dead, .dead, .dead, .dead, .dead, .dead, .dead, .dead, .dead, .dead, .dead, .dead, .dead, .dead, .dead, .dead, .dead, .dead, .dead, .dead, .dead, .dead, .dead]
abbrev e_lodgeref3_Element_0 : List (AX × List Slot) := [(AX.exit 0, [.data (.int .i64), .data (.sl (.int .i64)), .data (.int .i64), .data (.sl (.st (.pair (.st (.pair (.sl (.int .i64)) .bool)) (.sl (.int .i64))))), .dead, .dead, .dead, .dead, .dead, .dead, .dead, .dead, .dead, .dead, .dead, .dead, .dead, .dead, .dead, .dead, .dead, .dead, .dead, .dead, .dead, .dead, .dead, .dead, .dead, .dead, .dead, .dead, .dead, .dead, .dead, .dead, .dead, .dead, .dead, .dead, .dead, .dead, .dead, .dead, .dead, .dead, .dead, .dead, .dead, .dead, .dead]), (AX.ret, [.dead, .dead, .dead, .dead, .dead, .dead, .dead, .dead, .data (.int .i64), .dead, .dead, .dead, .dead, .dead, .dead, .dead, .dead, .dead, .dead, .dead, .dead, .dead, .dead, .dead, .dead, .dead, .dead, .dead, .dead, .dead, .dead, .dead, .dead, .dead, .dead, .dead, .dead, .dead, .dead, .dead, .dead, .dead, .dead, .dead, .dead, .dead, .dead, .dead, .dead, .dead, .dead])]
def g_lodgeref3_Element_0 (N : Nat) : Nat → Int → List Int → Int → List (((List Int × Bool) × List Int)) → Int → Option (Sum (Int × (List Int × (Int × (List (((List Int × Bool) × List Int)) × Unit)))) (Int × Unit))
  | 0, _, _, _, _, _ => none
  | n + 1, op_0, args_1, i_2, ins_3, k_9 =>
    cond (decide (k_9 < (Nat.cast (List.length ins_3) : Int)))
      (
      cond (decide ((0 : Int) ≤ k_9))
        (
        cond (decide ((Int.toNat k_9) < (List.length ins_3)))
          (
          Option.bind (F_lodgeref3_Good N (List.getD ins_3 (Int.toNat k_9) ((([] : List Int), false), ([] : List Int)))) fun y1 =>
          cond (Bool.not (y1).1)
            (
            some (Sum.inr ((0 : Int), ())))
            (
            (g_lodgeref3_Element_0 N n op_0 args_1 i_2 ins_3 (wi64 (k_9 + (1 : Int))))))
          (
          none))
        (
        none))
      (
      some (Sum.inl (op_0, (args_1, (i_2, (ins_3, ()))))))

def F_lodgeref3_Element (N : Nat) (op_0 : Int) (args_1 : List Int) (i_2 : Int) (ins_3 : List (((List Int × Bool) × List Int))) : Option (Int × Unit) :=
  Option.bind (g_lodgeref3_Element_0 N N op_0 args_1 i_2 ins_3 (0 : Int)) fun y0 =>
  Sum.elim (fun y1 =>
    Option.bind (F_lodgeref3_descsOf N ((((y1).2).2).2).1) fun y2 =>
    cond (decide (((0 : Nat) + (List.length (y2).1)) ≤ (List.length (y2).1)))
      (
      Option.bind (F_lodgeref3_Result N (y1).1 ((y1).2).1 (List.take (List.length (y2).1) (y2).1)) fun y3 =>
      cond (decide (@Ne Int ((y3).2).1 (0 : Int)))
        (
        some ((0 : Int), ()))
        (
        cond (decide ((((y1).2).2).1 < (0 : Int)))
          (
          some ((0 : Int), ()))
          (
          cond (decide (((0 : Nat) + (List.length ((y3).1).1)) ≤ (List.length ((y3).1).1)))
            (
            Option.bind (F_lodgeref3_Elems N (List.take (List.length ((y3).1).1) ((y3).1).1)) fun y4 =>
            cond (decide ((y4).1 ≤ (((y1).2).2).1))
              (
              some ((0 : Int), ()))
              (
              cond (decide (((0 : Nat) + (List.length ((y3).1).1)) ≤ (List.length ((y3).1).1)))
                (
                Option.bind (F_lodgeref3_element N (y1).1 ((y1).2).1 (((y1).2).2).1 ((((y1).2).2).2).1 ((List.take (List.length ((y3).1).1) ((y3).1).1), (((y3).1).2).1)) fun y5 =>
                some y5)
                (
                none)))
            (
            none))))
      (
      none))
    (fun y6 =>
    some y6) y0

abbrev c_lodgeref3_Element (N : Nat) : CallSpec := ⟨20, ps_lodgeref3_Element, rs_lodgeref3_Element, fun x => F_lodgeref3_Element N x.1 x.2.1 x.2.2.1 x.2.2.2.1⟩
abbrev l_lodgeref3_Element_0 (N : Nat) : LoopSpec := ⟨0, h_lodgeref3_Element_0, e_lodgeref3_Element_0, fun x => g_lodgeref3_Element_0 N N x.1 x.2.1 x.2.2.1 x.2.2.2.1 x.2.2.2.2.1⟩

theorem cs_lodgeref3_Element_ok (S : Nat → Addr) (N : Nat) : CallsOK Go.Proofs.Tryz.prog E S (cs_lodgeref3_Element N) :=
  .cons (F_lodgeref3_Elems_ok S N) (.cons (F_lodgeref3_Result_ok S N) (.cons (F_lodgeref3_descsOf_ok S N) (.cons (F_lodgeref3_element_ok S N) (.cons (F_lodgeref3_Good_ok S N) (.nil)))))
noncomputable abbrev b_lodgeref3_Element_0 : Code := (loopsOf b_lodgeref3_Element).getD 0 .skip
theorem g_lodgeref3_Element_0_ok (S : Nat → Addr) (N : Nat) : ∀ n x y, (fun (x : Val (slotsTy h_lodgeref3_Element_0)) => g_lodgeref3_Element_0 N n x.1 x.2.1 x.2.2.1 x.2.2.2.1 x.2.2.2.2.1) x = some y → LoopCon Go.Proofs.Tryz.prog E S b_lodgeref3_Element_0 (encSlots h_lodgeref3_Element_0 x) (encEx e_lodgeref3_Element_0 y).1 (encEx e_lodgeref3_Element_0 y).2 :=
  loop_spec E_ok mixed (cs_lodgeref3_Element_ok S N) (all := loopsOf b_lodgeref3_Element) (ls := []) (.nil) (i := 0) (by kernel_rfl) (inner_of (by kernel_rfl)) (head := h_lodgeref3_Element_0) (ex := e_lodgeref3_Element_0) (fun n (x : Val (slotsTy h_lodgeref3_Element_0)) => g_lodgeref3_Element_0 N n x.1 x.2.1 x.2.2.1 x.2.2.2.1 x.2.2.2.2.1) (fun _ => rfl) (fun n x => by kernel_rfl)
theorem F_lodgeref3_Element_ok (S : Nat → Addr) (N : Nat) : ∀ x y, (c_lodgeref3_Element N).g x = some y → FCon Go.Proofs.Tryz.prog E S 20 ps_lodgeref3_Element rs_lodgeref3_Element x y := by
  intro x y h
  exact fun_spec E_ok mixed (cs_lodgeref3_Element_ok S N) (f := 20) (fi := ⟨b_lodgeref3_Element, 51, Go.Proofs.Tryz.f20.results.toList⟩) (by kernel_rfl) (ls := [l_lodgeref3_Element_0 N]) (.cons (by kernel_rfl) (g_lodgeref3_Element_0_ok S N N) (.nil)) (by kernel_rfl) (ps := ps_lodgeref3_Element) (rs := rs_lodgeref3_Element) (Eq.trans (b := F_lodgeref3_Element N x.1 x.2.1 x.2.2.1 x.2.2.2.1) (by kernel_rfl) h)

/-! lodge/lodgelaw12.OpSays -/

abbrev ps_lodgelaw12_OpSays : List Ty := [(.int .i64), (.sl (.int .i64)), (.sl (.st (.pair (.st (.pair (.sl (.int .i64)) .bool)) (.sl (.int .i64))))), (.int .i64)]
abbrev rs_lodgelaw12_OpSays : List Slot := [.data .bool]
abbrev cs_lodgelaw12_OpSays (N : Nat) : List CallSpec := [c_op_Known N, c_op_Ins N, c_op_Args N, c_lodgelaw12_first N, c_lodgeref3_Known N, c_lodgeref3_Ins N, c_lodgeref3_Args N, c_lodgelaw12_light N, c_op_Apply N, c_lodgeref3_Apply N, c_op_Name N, c_op_Named N, c_lodgesee_Same N, c_lodgeref_SameTensor N, c_lodgeref3_Name N, c_op_Element N, c_lodgeref3_Element N]
noncomputable abbrev b_lodgelaw12_OpSays : Code := (Go.Proofs.Tryz.f3.body).getD .skip

abbrev j_lodgelaw12_OpSays : Joins := [(12, [(AX.normal, [.data (.int .i64), .data (.sl (.int .i64)), .data (.sl (.st (.pair (.st (.pair (.sl (.int .i64)) .bool)) (.sl (.int .i64))))), .data (.int .i64), .dead, .dead, .dead, .dead, .dead, .dead, .box [.d (.sl (.int .i64)), .d .bool, .sl (.int .i64)], .data .err, .box [.sl (.int .i64), .d .bool, .sl (.int .i64)], .box [.d (.st (.pair (.int .i64) (.pair .bool (.int .i64))))], .dead, .dead, .dead, .dead, .dead, .dead, .dead, .dead, .dead, .dead, .dead, .dead, .dead, .dead, .dead, .dead, .dead, .dead, .dead, .dead, .dead, .dead, .dead, .dead, .dead, .dead, .dead, .dead, .dead, .dead, .dead, .dead, .dead, .dead, .dead, .dead, .dead, .dead, .dead, .dead, .dead, .dead, .dead, .dead, .dead, .dead, .dead, .dead, .dead, .dead, .dead, .dead, .dead, .dead, .dead, .dead, .dead, .data .bool, .dead, .dead, .dead, .dead, .dead, .dead, .dead, .dead, .dead, .dead, .dead, .dead, .dead, .dead, .dead, .dead, .dead, .dead, .dead, .dead, .dead, .dead, .dead, .dead, .dead, .dead, .dead, .dead, .dead, .dead, .dead, .dead, .dead, .dead, .dead, .dead, .dead, .dead, .dead, .dead, .dead, .dead, .dead, .dead, .dead, .dead, .dead, .dead, .dead])]),
  (6, [(AX.normal, [.data (.int .i64), .data (.sl (.int .i64)), .data (.sl (.st (.pair (.st (.pair (.sl (.int .i64)) .bool)) (.sl (.int .i64))))), .data (.int .i64), .dead, .dead, .dead, .dead, .dead, .data .bool, .dead, .dead, .dead, .dead, .dead, .dead, .dead, .dead, .dead, .dead, .dead, .dead, .dead, .dead, .dead, .dead, .dead, .data .bool, .dead, .dead, .dead, .dead, .dead, .dead, .dead, .dead, .dead, .dead, .dead, .dead, .dead, .dead, .dead, .dead, .dead, .dead, .dead, .dead, .dead, .dead, .dead, .dead, .dead, .dead, .dead, .dead, .dead, .dead, .dead, .dead, .dead, .dead, .dead, .dead, .dead, .dead, .dead, .dead, .dead, .dead, .dead, .dead, .dead, .dead, .dead, .dead, .dead, .dead, .dead, .dead, .dead, .dead, .dead, .dead, .dead, .dead, .dead, .dead, .dead, .dead, .dead, .dead, .dead, .dead, .dead, .dead, .dead, .dead, .dead, .dead, .dead, .dead, .dead, .dead, .dead, .dead, .dead, .dead, .dead, .dead, .dead, .dead, .dead, .dead, .dead, .dead, .dead, .dead, .dead, .dead, .dead])])]
def F_lodgelaw12_OpSays (N : Nat) (o_0 : Int) (args_1 : List Int) (ins_2 : List (((List Int × Bool) × List Int))) (i_3 : Int) : Option (Bool × Unit) :=
  Option.bind (F_lodgelaw12_first N) fun y0 =>
  cond (Bool.not (y0).1)
    (
    some (false, ()))
    (
    Option.bind (
        Option.bind (F_lodgelaw12_light N o_0 args_1 ins_2) fun y1 =>
        cond (Bool.not (y1).1)
          (
          some (o_0, (args_1, (ins_2, (i_3, ((y0).1, (true, ())))))))
          (
          some (o_0, (args_1, (ins_2, (i_3, ((y0).1, ((Bool.not (y0).1), ())))))))) fun y2 =>
    cond ((((((y2).2).2).2).2).2).1
      (
      some ((((((y2).2).2).2).2).1, ()))
      (
      Option.bind (F_op_Apply N (y2).1 ((y2).2).1 (((y2).2).2).1) fun y3 =>
      Option.bind (F_lodgeref3_Apply N (y2).1 ((y2).2).1 (((y2).2).2).1) fun y4 =>
      Option.bind (F_op_Name N (y2).1) fun y5 =>
      Option.bind (F_op_Named N (y5).1) fun y6 =>
      Option.bind (
          Option.bind (F_lodgeref3_Known N (y2).1) fun y7 =>
          cond (y7).1
            (
            cond (Bool.not ((y6).2).1)
              (
              cond (decide ((List.length ((((y3).1).2).2).1) = (List.length ((((y3).1).2).2).1)))
                (
                cond (decide ((List.length ((y4).1).1) = (List.length ((y4).1).1)))
                  (
                  cond (decide ((List.length ((((y4).1).2).2).1) = (List.length ((((y4).1).2).2).1)))
                    (
                    some ((y2).1, (((y2).2).1, ((((y2).2).2).1, (((((y2).2).2).2).1, ((y3).1, (((y3).2).1, ((y4).1, ((y4).2, (true, ()))))))))))
                    (
                    none))
                  (
                  none))
                (
                none))
              (
              cond (decide (@Ne Int (y6).1 (y2).1))
                (
                cond (decide ((List.length ((((y3).1).2).2).1) = (List.length ((((y3).1).2).2).1)))
                  (
                  cond (decide ((List.length ((y4).1).1) = (List.length ((y4).1).1)))
                    (
                    cond (decide ((List.length ((((y4).1).2).2).1) = (List.length ((((y4).1).2).2).1)))
                      (
                      some ((y2).1, (((y2).2).1, ((((y2).2).2).1, (((((y2).2).2).2).1, ((y3).1, (((y3).2).1, ((y4).1, ((y4).2, (true, ()))))))))))
                      (
                      none))
                    (
                    none))
                  (
                  none))
                (
                Option.bind (F_lodgeref3_Known N (y2).1) fun y8 =>
                cond (Bool.not (y8).1)
                  (
                  cond ((y6).2).1
                    (
                    cond (decide ((List.length ((((y3).1).2).2).1) = (List.length ((((y3).1).2).2).1)))
                      (
                      cond (decide ((List.length ((y4).1).1) = (List.length ((y4).1).1)))
                        (
                        cond (decide ((List.length ((((y4).1).2).2).1) = (List.length ((((y4).1).2).2).1)))
                          (
                          some ((y2).1, (((y2).2).1, ((((y2).2).2).1, (((((y2).2).2).2).1, ((y3).1, (((y3).2).1, ((y4).1, ((y4).2, (true, ()))))))))))
                          (
                          none))
                        (
                        none))
                      (
                      none))
                    (
                    cond (decide ((List.length ((((y3).1).2).2).1) = (List.length ((((y3).1).2).2).1)))
                      (
                      cond (decide ((List.length ((y4).1).1) = (List.length ((y4).1).1)))
                        (
                        cond (decide ((List.length ((((y4).1).2).2).1) = (List.length ((((y4).1).2).2).1)))
                          (
                          some ((y2).1, (((y2).2).1, ((((y2).2).2).1, (((((y2).2).2).2).1, ((y3).1, (((y3).2).1, ((y4).1, ((y4).2, ((decide (@Ne Int (y6).1 (0 : Int))), ()))))))))))
                          (
                          none))
                        (
                        none))
                      (
                      none)))
                  (
                  cond (decide ((List.length ((((y3).1).2).2).1) = (List.length ((((y3).1).2).2).1)))
                    (
                    cond (decide ((List.length ((y4).1).1) = (List.length ((y4).1).1)))
                      (
                      cond (decide ((List.length ((((y4).1).2).2).1) = (List.length ((((y4).1).2).2).1)))
                        (
                        some ((y2).1, (((y2).2).1, ((((y2).2).2).1, (((((y2).2).2).2).1, ((y3).1, (((y3).2).1, ((y4).1, ((y4).2, (false, ()))))))))))
                        (
                        none))
                      (
                      none))
                    (
                    none)))))
            (
            Option.bind (F_lodgeref3_Known N (y2).1) fun y9 =>
            cond (Bool.not (y9).1)
              (
              cond ((y6).2).1
                (
                cond (decide ((List.length ((((y3).1).2).2).1) = (List.length ((((y3).1).2).2).1)))
                  (
                  cond (decide ((List.length ((y4).1).1) = (List.length ((y4).1).1)))
                    (
                    cond (decide ((List.length ((((y4).1).2).2).1) = (List.length ((((y4).1).2).2).1)))
                      (
                      some ((y2).1, (((y2).2).1, ((((y2).2).2).1, (((((y2).2).2).2).1, ((y3).1, (((y3).2).1, ((y4).1, ((y4).2, (true, ()))))))))))
                      (
                      none))
                    (
                    none))
                  (
                  none))
                (
                cond (decide ((List.length ((((y3).1).2).2).1) = (List.length ((((y3).1).2).2).1)))
                  (
                  cond (decide ((List.length ((y4).1).1) = (List.length ((y4).1).1)))
                    (
                    cond (decide ((List.length ((((y4).1).2).2).1) = (List.length ((((y4).1).2).2).1)))
                      (
                      some ((y2).1, (((y2).2).1, ((((y2).2).2).1, (((((y2).2).2).2).1, ((y3).1, (((y3).2).1, ((y4).1, ((y4).2, ((decide (@Ne Int (y6).1 (0 : Int))), ()))))))))))
                      (
                      none))
                    (
                    none))
                  (
                  none)))
              (
              cond (decide ((List.length ((((y3).1).2).2).1) = (List.length ((((y3).1).2).2).1)))
                (
                cond (decide ((List.length ((y4).1).1) = (List.length ((y4).1).1)))
                  (
                  cond (decide ((List.length ((((y4).1).2).2).1) = (List.length ((((y4).1).2).2).1)))
                    (
                    some ((y2).1, (((y2).2).1, ((((y2).2).2).1, (((((y2).2).2).2).1, ((y3).1, (((y3).2).1, ((y4).1, ((y4).2, (false, ()))))))))))
                    (
                    none))
                  (
                  none))
                (
                none)))) fun y10 =>
      cond (((((((((y10).2).2).2).2).2).2).2).2).1
        (
        some (false, ()))
        (
        Option.bind (F_lodgesee_Same N ((((((y10).2).2).2).2).2).1 (((((((((y10).2).2).2).2).2).2).2).1).1) fun y11 =>
        cond (y11).1
          (
          cond (decide (((0 : Nat) + (List.length ((((((((y10).2).2).2).2).1).2).2).1)) ≤ (List.length ((((((((y10).2).2).2).2).1).2).2).1)))
            (
            cond (decide (((0 : Nat) + (List.length ((((((((y10).2).2).2).2).2).2).1).1)) ≤ (List.length ((((((((y10).2).2).2).2).2).2).1).1)))
              (
              cond (decide (((0 : Nat) + (List.length ((((((((((y10).2).2).2).2).2).2).1).2).2).1)) ≤ (List.length ((((((((((y10).2).2).2).2).2).2).1).2).2).1)))
                (
                Option.bind (F_lodgeref_SameTensor N ((((((((y10).2).2).2).2).1).1, (((((((y10).2).2).2).2).1).2).1), (List.take (List.length ((((((((y10).2).2).2).2).1).2).2).1) ((((((((y10).2).2).2).2).1).2).2).1)) (((List.take (List.length ((((((((y10).2).2).2).2).2).2).1).1) ((((((((y10).2).2).2).2).2).2).1).1), (((((((((y10).2).2).2).2).2).2).1).2).1), (List.take (List.length ((((((((((y10).2).2).2).2).2).2).1).2).2).1) ((((((((((y10).2).2).2).2).2).2).1).2).2).1))) fun y12 =>
                cond (y12).1
                  (
                  Option.bind (F_op_Known N (y10).1) fun y13 =>
                  Option.bind (F_lodgeref3_Known N (y10).1) fun y14 =>
                  cond ((y13).1 == (y14).1)
                    (
                    Option.bind (F_op_Ins N (y10).1) fun y15 =>
                    Option.bind (F_lodgeref3_Ins N (y10).1) fun y16 =>
                    cond (decide ((y15).1 = (y16).1))
                      (
                      Option.bind (F_op_Args N (y10).1) fun y17 =>
                      Option.bind (F_lodgeref3_Args N (y10).1) fun y18 =>
                      cond (decide ((y17).1 = (y18).1))
                        (
                        Option.bind (F_op_Name N (y10).1) fun y19 =>
                        Option.bind (F_lodgeref3_Name N (y10).1) fun y20 =>
                        cond ((ByteArray.toList (y19).1) == (ByteArray.toList (y20).1))
                          (
                          Option.bind (F_op_Element N (y10).1 ((y10).2).1 ((((y10).2).2).2).1 (((y10).2).2).1) fun y21 =>
                          Option.bind (F_lodgeref3_Element N (y10).1 ((y10).2).1 ((((y10).2).2).2).1 (((y10).2).2).1) fun y22 =>
                          some ((decide ((y21).1 = (y22).1)), ()))
                          (
                          some (false, ())))
                        (
                        some (false, ())))
                      (
                      some (false, ())))
                    (
                    some (false, ())))
                  (
                  some (false, ())))
                (
                none))
              (
              none))
            (
            none))
          (
          some (false, ())))))

abbrev c_lodgelaw12_OpSays (N : Nat) : CallSpec := ⟨3, ps_lodgelaw12_OpSays, rs_lodgelaw12_OpSays, fun x => F_lodgelaw12_OpSays N x.1 x.2.1 x.2.2.1 x.2.2.2.1⟩

theorem cs_lodgelaw12_OpSays_ok (S : Nat → Addr) (N : Nat) : CallsOK Go.Proofs.Tryz.prog E S (cs_lodgelaw12_OpSays N) :=
  .cons (F_op_Known_ok S N) (.cons (F_op_Ins_ok S N) (.cons (F_op_Args_ok S N) (.cons (F_lodgelaw12_first_ok S N) (.cons (F_lodgeref3_Known_ok S N) (.cons (F_lodgeref3_Ins_ok S N) (.cons (F_lodgeref3_Args_ok S N) (.cons (F_lodgelaw12_light_ok S N) (.cons (F_op_Apply_ok S N) (.cons (F_lodgeref3_Apply_ok S N) (.cons (F_op_Name_ok S N) (.cons (F_op_Named_ok S N) (.cons (F_lodgesee_Same_ok S N) (.cons (F_lodgeref_SameTensor_ok S N) (.cons (F_lodgeref3_Name_ok S N) (.cons (F_op_Element_ok S N) (.cons (F_lodgeref3_Element_ok S N) (.nil)))))))))))))))))
theorem F_lodgelaw12_OpSays_ok (S : Nat → Addr) (N : Nat) : ∀ x y, (c_lodgelaw12_OpSays N).g x = some y → FCon Go.Proofs.Tryz.prog E S 3 ps_lodgelaw12_OpSays rs_lodgelaw12_OpSays x y := by
  intro x y h
  exact fun_specJ E_ok mixed (cs_lodgelaw12_OpSays_ok S N) (f := 3) (fi := ⟨b_lodgelaw12_OpSays, 121, Go.Proofs.Tryz.f3.results.toList⟩) (by kernel_rfl) (ls := []) (.nil) (js := j_lodgelaw12_OpSays) (by kernel_rfl) (ps := ps_lodgelaw12_OpSays) (rs := rs_lodgelaw12_OpSays) (Eq.trans (b := F_lodgelaw12_OpSays N x.1 x.2.1 x.2.2.1 x.2.2.2.1) (by kernel_rfl) h)

end Go.Proofs.YtnblnlanicpagaaGreatDoor.Lg
