/-
  The functions of the seat's program, as plain functions.
-/
import Derived.Test.YtmbcbocnncfpbaaDoorLgElemBFb
namespace Go.Proofs.YtmbcbocnncfpbaaDoor.Lg
open Go Go.Eng Go.Proofs
set_option maxRecDepth 100000

/-! lodge/lodgeref3.descsOf -/

abbrev ps_lodgeref3_descsOf : List Ty := [(.sl (.st (.pair (.st (.pair (.sl (.int .i64)) .bool)) (.sl (.int .i64)))))]
abbrev rs_lodgeref3_descsOf : List Slot := [.sl (.st (.pair (.sl (.int .i64)) .bool))]
abbrev cs_lodgeref3_descsOf (N : Nat) : List CallSpec := []
noncomputable abbrev b_lodgeref3_descsOf : Code := (Go.Proofs.Tryd.f47.body).getD .skip

abbrev h_lodgeref3_descsOf_0 : List Slot := [.data (.sl (.st (.pair (.st (.pair (.sl (.int .i64)) .bool)) (.sl (.int .i64))))), .dead, .dead, .sl (.st (.pair (.sl (.int .i64)) .bool)), .data (.int .i64), .dead, .dead, .dead, .dead, .dead, .dead, .dead, .dead, .dead, .dead, .dead, .dead, .dead, .dead, .dead]
abbrev e_lodgeref3_descsOf_0 : List (AX × List Slot) := [(AX.exit 0, [.dead, .dead, .dead, .sl (.st (.pair (.sl (.int .i64)) .bool)), .dead, .dead, .dead, .dead, .dead, .dead, .dead, .dead, .dead, .dead, .dead, .dead, .dead, .dead, .dead, .dead])]
def g_lodgeref3_descsOf_0 (N : Nat) : Nat → List (((List Int × Bool) × List Int)) → List ((List Int × Bool)) → Int → Option (List ((List Int × Bool)) × Unit)
  | 0, _, _, _ => none
  | n + 1, ins_0, out_3, i_4 =>
    cond (decide (i_4 < (Nat.cast (List.length ins_0) : Int)))
      (
      cond (decide ((0 : Int) ≤ i_4))
        (
        cond (decide ((Int.toNat i_4) < (List.length ins_0)))
          (
          cond (decide (((0 : Nat) + (List.length out_3)) = (List.length out_3)))
            (
            cond (decide ((((List.length out_3) + 1) * (32 + (1 : Nat))) ≤ Go.Eng.most))
              (
              cond (decide (((List.length out_3) + 1) = (List.length ((List.take (List.length out_3) out_3) ++ (((List.getD ins_0 (Int.toNat i_4) ((([] : List Int), false), ([] : List Int)))).1 :: ([] : List ((List Int) × Bool)))))))
                (
                (g_lodgeref3_descsOf_0 N n ins_0 ((List.take (List.length out_3) out_3) ++ (((List.getD ins_0 (Int.toNat i_4) ((([] : List Int), false), ([] : List Int)))).1 :: ([] : List ((List Int) × Bool)))) (wi64 (i_4 + (1 : Int)))))
                (
                none))
              (
              none))
            (
            none))
          (
          none))
        (
        none))
      (
      cond (decide ((List.length out_3) = (List.length out_3)))
        (
        some (out_3, ()))
        (
        none))

def F_lodgeref3_descsOf (N : Nat) (ins_0 : List (((List Int × Bool) × List Int))) : Option (List ((List Int × Bool)) × Unit) :=
  Option.bind (g_lodgeref3_descsOf_0 N N ins_0 ([] : List ((List Int) × Bool)) (0 : Int)) fun y0 =>
  cond (decide ((List.length (y0).1) = (List.length (y0).1)))
    (
    some y0)
    (
    none)

abbrev c_lodgeref3_descsOf (N : Nat) : CallSpec := ⟨47, ps_lodgeref3_descsOf, rs_lodgeref3_descsOf, fun x => F_lodgeref3_descsOf N x.1⟩
abbrev l_lodgeref3_descsOf_0 (N : Nat) : LoopSpec := ⟨0, h_lodgeref3_descsOf_0, e_lodgeref3_descsOf_0, fun x => g_lodgeref3_descsOf_0 N N x.1 x.2.1 x.2.2.1⟩

theorem cs_lodgeref3_descsOf_ok (S : Nat → Addr) (N : Nat) : CallsOK Go.Proofs.Tryd.prog E S (cs_lodgeref3_descsOf N) :=
  .nil
noncomputable abbrev b_lodgeref3_descsOf_0 : Code := (loopsOf b_lodgeref3_descsOf).getD 0 .skip
theorem g_lodgeref3_descsOf_0_ok (S : Nat → Addr) (N : Nat) : ∀ n x y, (fun (x : Val (slotsTy h_lodgeref3_descsOf_0)) => g_lodgeref3_descsOf_0 N n x.1 x.2.1 x.2.2.1) x = some y → LoopCon Go.Proofs.Tryd.prog E S b_lodgeref3_descsOf_0 (encSlots h_lodgeref3_descsOf_0 x) (encEx e_lodgeref3_descsOf_0 y).1 (encEx e_lodgeref3_descsOf_0 y).2 :=
  loop_spec E_ok mixed (cs_lodgeref3_descsOf_ok S N) (all := loopsOf b_lodgeref3_descsOf) (ls := []) (.nil) (i := 0) (by kernel_rfl) (inner_of (by kernel_rfl)) (head := h_lodgeref3_descsOf_0) (ex := e_lodgeref3_descsOf_0) (fun n (x : Val (slotsTy h_lodgeref3_descsOf_0)) => g_lodgeref3_descsOf_0 N n x.1 x.2.1 x.2.2.1) (fun _ => rfl) (fun n x => by kernel_rfl)
theorem F_lodgeref3_descsOf_ok (S : Nat → Addr) (N : Nat) : ∀ x y, (c_lodgeref3_descsOf N).g x = some y → FCon Go.Proofs.Tryd.prog E S 47 ps_lodgeref3_descsOf rs_lodgeref3_descsOf x y := by
  intro x y h
  exact fun_spec E_ok mixed (cs_lodgeref3_descsOf_ok S N) (f := 47) (fi := ⟨b_lodgeref3_descsOf, 20, Go.Proofs.Tryd.f47.results.toList⟩) (by kernel_rfl) (ls := [l_lodgeref3_descsOf_0 N]) (.cons (by kernel_rfl) (g_lodgeref3_descsOf_0_ok S N N) (.nil)) (by kernel_rfl) (ps := ps_lodgeref3_descsOf) (rs := rs_lodgeref3_descsOf) (Eq.trans (b := F_lodgeref3_descsOf N x.1) (by kernel_rfl) h)

/-! lodge/lodgeref3.Known -/

abbrev ps_lodgeref3_Known : List Ty := [(.int .i64)]
abbrev rs_lodgeref3_Known : List Slot := [.data .bool]
abbrev cs_lodgeref3_Known (N : Nat) : List CallSpec := []
noncomputable abbrev b_lodgeref3_Known : Code := (Go.Proofs.Tryd.f66.body).getD .skip

def F_lodgeref3_Known (N : Nat) (op_0 : Int) : Option (Bool × Unit) :=
  cond (decide ((4 : Int) ≤ op_0))
    (
    some ((decide (op_0 ≤ (21 : Int))), ()))
    (
    some (false, ()))

abbrev c_lodgeref3_Known (N : Nat) : CallSpec := ⟨66, ps_lodgeref3_Known, rs_lodgeref3_Known, fun x => F_lodgeref3_Known N x.1⟩

theorem cs_lodgeref3_Known_ok (S : Nat → Addr) (N : Nat) : CallsOK Go.Proofs.Tryd.prog E S (cs_lodgeref3_Known N) :=
  .nil
theorem F_lodgeref3_Known_ok (S : Nat → Addr) (N : Nat) : ∀ x y, (c_lodgeref3_Known N).g x = some y → FCon Go.Proofs.Tryd.prog E S 66 ps_lodgeref3_Known rs_lodgeref3_Known x y := by
  intro x y h
  exact fun_spec E_ok mixed (cs_lodgeref3_Known_ok S N) (f := 66) (fi := ⟨b_lodgeref3_Known, 9, Go.Proofs.Tryd.f66.results.toList⟩) (by kernel_rfl) (ls := []) (.nil) (by kernel_rfl) (ps := ps_lodgeref3_Known) (rs := rs_lodgeref3_Known) (Eq.trans (b := F_lodgeref3_Known N x.1) (by kernel_rfl) h)

/-! lodge/lodgeref3.Ins -/

abbrev ps_lodgeref3_Ins : List Ty := [(.int .i64)]
abbrev rs_lodgeref3_Ins : List Slot := [.data (.int .i64)]
abbrev cs_lodgeref3_Ins (N : Nat) : List CallSpec := [c_lodgeref3_Known N]
noncomputable abbrev b_lodgeref3_Ins : Code := (Go.Proofs.Tryd.f67.body).getD .skip

def F_lodgeref3_Ins (N : Nat) (op_0 : Int) : Option (Int × Unit) :=
  cond (decide (op_0 = (4 : Int)))
    (
    some ((2 : Int), ()))
    (
    cond (decide (op_0 = (5 : Int)))
      (
      some ((2 : Int), ()))
      (
      cond (decide (op_0 = (6 : Int)))
        (
        some ((2 : Int), ()))
        (
        cond (decide (op_0 = (7 : Int)))
          (
          some ((2 : Int), ()))
          (
          cond (decide (op_0 = (12 : Int)))
            (
            some ((2 : Int), ()))
            (
            cond (decide (op_0 = (13 : Int)))
              (
              some ((2 : Int), ()))
              (
              cond (decide (op_0 = (16 : Int)))
                (
                some ((2 : Int), ()))
                (
                cond (decide (op_0 = (17 : Int)))
                  (
                  some ((2 : Int), ()))
                  (
                  Option.bind (F_lodgeref3_Known N op_0) fun y0 =>
                  cond (y0).1
                    (
                    some ((1 : Int), ()))
                    (
                    some ((0 : Int), ()))))))))))

abbrev c_lodgeref3_Ins (N : Nat) : CallSpec := ⟨67, ps_lodgeref3_Ins, rs_lodgeref3_Ins, fun x => F_lodgeref3_Ins N x.1⟩

theorem cs_lodgeref3_Ins_ok (S : Nat → Addr) (N : Nat) : CallsOK Go.Proofs.Tryd.prog E S (cs_lodgeref3_Ins N) :=
  .cons (F_lodgeref3_Known_ok S N) (.nil)
theorem F_lodgeref3_Ins_ok (S : Nat → Addr) (N : Nat) : ∀ x y, (c_lodgeref3_Ins N).g x = some y → FCon Go.Proofs.Tryd.prog E S 67 ps_lodgeref3_Ins rs_lodgeref3_Ins x y := by
  intro x y h
  exact fun_spec E_ok mixed (cs_lodgeref3_Ins_ok S N) (f := 67) (fi := ⟨b_lodgeref3_Ins, 15, Go.Proofs.Tryd.f67.results.toList⟩) (by kernel_rfl) (ls := []) (.nil) (by kernel_rfl) (ps := ps_lodgeref3_Ins) (rs := rs_lodgeref3_Ins) (Eq.trans (b := F_lodgeref3_Ins N x.1) (by kernel_rfl) h)

/-! lodge/lodgeref3.Args -/

abbrev ps_lodgeref3_Args : List Ty := [(.int .i64)]
abbrev rs_lodgeref3_Args : List Slot := [.data (.int .i64)]
abbrev cs_lodgeref3_Args (N : Nat) : List CallSpec := []
noncomputable abbrev b_lodgeref3_Args : Code := (Go.Proofs.Tryd.f68.body).getD .skip

def F_lodgeref3_Args (N : Nat) (op_0 : Int) : Option (Int × Unit) :=
  cond (decide (op_0 = (9 : Int)))
    (
    some ((2 : Int), ()))
    (
    cond (decide (op_0 = (12 : Int)))
      (
      some ((2 : Int), ()))
      (
      cond (decide (op_0 = (14 : Int)))
        (
        some ((2 : Int), ()))
        (
        cond (decide (op_0 = (15 : Int)))
          (
          some ((2 : Int), ()))
          (
          cond (decide (op_0 = (10 : Int)))
            (
            some ((3 : Int), ()))
            (
            cond (decide (op_0 = (13 : Int)))
              (
              some ((3 : Int), ()))
              (
              cond (decide (op_0 = (11 : Int)))
                (
                some ((1 : Int), ()))
                (
                some ((0 : Int), ()))))))))

abbrev c_lodgeref3_Args (N : Nat) : CallSpec := ⟨68, ps_lodgeref3_Args, rs_lodgeref3_Args, fun x => F_lodgeref3_Args N x.1⟩

theorem cs_lodgeref3_Args_ok (S : Nat → Addr) (N : Nat) : CallsOK Go.Proofs.Tryd.prog E S (cs_lodgeref3_Args N) :=
  .nil
theorem F_lodgeref3_Args_ok (S : Nat → Addr) (N : Nat) : ∀ x y, (c_lodgeref3_Args N).g x = some y → FCon Go.Proofs.Tryd.prog E S 68 ps_lodgeref3_Args rs_lodgeref3_Args x y := by
  intro x y h
  exact fun_spec E_ok mixed (cs_lodgeref3_Args_ok S N) (f := 68) (fi := ⟨b_lodgeref3_Args, 14, Go.Proofs.Tryd.f68.results.toList⟩) (by kernel_rfl) (ls := []) (.nil) (by kernel_rfl) (ps := ps_lodgeref3_Args) (rs := rs_lodgeref3_Args) (Eq.trans (b := F_lodgeref3_Args N x.1) (by kernel_rfl) h)

/-! lodge/lodgeref3.seen -/

abbrev ps_lodgeref3_seen : List Ty := [(.st (.pair (.sl (.int .i64)) .bool))]
abbrev rs_lodgeref3_seen : List Slot := [.ag [.sl (.int .i64), .d .bool], .data (.int .i64)]
abbrev cs_lodgeref3_seen (N : Nat) : List CallSpec := [c_lodgeref3_ValidDesc N, c_lodgeref_Desc N]
noncomputable abbrev b_lodgeref3_seen : Code := (Go.Proofs.Tryd.f73.body).getD .skip

def F_lodgeref3_seen (N : Nat) (d_0 : (List Int × Bool)) : Option ((List Int × (Bool × Unit)) × (Int × Unit)) :=
  Option.bind (F_lodgeref3_ValidDesc N d_0) fun y0 =>
  cond (decide (@Ne Int (y0).1 (0 : Int)))
    (
    some ((([] : List Int), (false, ())), y0))
    (
    Option.bind (F_lodgeref_Desc N d_0) fun y1 =>
    cond (decide ((List.length ((y1).1).1) = (List.length ((y1).1).1)))
      (
      some ((y1).1, ((0 : Int), ())))
      (
      none))

abbrev c_lodgeref3_seen (N : Nat) : CallSpec := ⟨73, ps_lodgeref3_seen, rs_lodgeref3_seen, fun x => F_lodgeref3_seen N x.1⟩

theorem cs_lodgeref3_seen_ok (S : Nat → Addr) (N : Nat) : CallsOK Go.Proofs.Tryd.prog E S (cs_lodgeref3_seen N) :=
  .cons (F_lodgeref3_ValidDesc_ok S N) (.cons (F_lodgeref_Desc_ok S N) (.nil))
theorem F_lodgeref3_seen_ok (S : Nat → Addr) (N : Nat) : ∀ x y, (c_lodgeref3_seen N).g x = some y → FCon Go.Proofs.Tryd.prog E S 73 ps_lodgeref3_seen rs_lodgeref3_seen x y := by
  intro x y h
  exact fun_spec E_ok mixed (cs_lodgeref3_seen_ok S N) (f := 73) (fi := ⟨b_lodgeref3_seen, 13, Go.Proofs.Tryd.f73.results.toList⟩) (by kernel_rfl) (ls := []) (.nil) (by kernel_rfl) (ps := ps_lodgeref3_seen) (rs := rs_lodgeref3_seen) (Eq.trans (b := F_lodgeref3_seen N x.1) (by kernel_rfl) h)

/-! lodge/lodgeref3.MatResult -/

abbrev ps_lodgeref3_MatResult : List Ty := [(.int .i64), (.int .i64), (.st (.pair (.sl (.int .i64)) .bool)), (.st (.pair (.sl (.int .i64)) .bool))]
abbrev rs_lodgeref3_MatResult : List Slot := [.ag [.sl (.int .i64), .d .bool], .data (.int .i64)]
abbrev cs_lodgeref3_MatResult (N : Nat) : List CallSpec := [c_lodgeref3_descs N, c_lodgeref3_narrow N, c_lodgeref3_seen N]
noncomputable abbrev b_lodgeref3_MatResult : Code := (Go.Proofs.Tryd.f69.body).getD .skip

def F_lodgeref3_MatResult (N : Nat) (za_0 : Int) (zb_1 : Int) (a_2 : (List Int × Bool)) (b_3 : (List Int × Bool)) : Option ((List Int × (Bool × Unit)) × (Int × Unit)) :=
  Option.bind (F_lodgeref3_descs N (a_2 :: (b_3 :: ([] : List ((List Int) × Bool))))) fun y0 =>
  cond (decide (@Ne Int (y0).1 (0 : Int)))
    (
    some ((([] : List Int), (false, ())), y0))
    (
    cond (decide (@Ne Int (Nat.cast (List.length (a_2).1) : Int) (2 : Int)))
      (
      some ((([] : List Int), (false, ())), ((101 : Int), ())))
      (
      cond (decide (@Ne Int (Nat.cast (List.length (b_3).1) : Int) (2 : Int)))
        (
        some ((([] : List Int), (false, ())), ((101 : Int), ())))
        (
        cond (a_2).2
          (
          some ((([] : List Int), (false, ())), ((101 : Int), ())))
          (
          cond (b_3).2
            (
            some ((([] : List Int), (false, ())), ((101 : Int), ())))
            (
            cond (decide (1 < (List.length (a_2).1)))
              (
              cond (decide (0 < (List.length (b_3).1)))
                (
                cond (decide (@Ne Int (List.getD (a_2).1 1 (0 : Int)) (List.getD (b_3).1 0 (0 : Int))))
                  (
                  some ((([] : List Int), (false, ())), ((101 : Int), ())))
                  (
                  Option.bind (F_lodgeref3_narrow N za_0) fun y1 =>
                  cond (Bool.not (y1).1)
                    (
                    some ((([] : List Int), (false, ())), ((102 : Int), ())))
                    (
                    Option.bind (F_lodgeref3_narrow N zb_1) fun y2 =>
                    cond (Bool.not (y2).1)
                      (
                      some ((([] : List Int), (false, ())), ((102 : Int), ())))
                      (
                      cond (decide (0 < (List.length (a_2).1)))
                        (
                        cond (decide (1 < (List.length (b_3).1)))
                          (
                          Option.bind (F_lodgeref3_seen N (((List.getD (a_2).1 0 (0 : Int)) :: ((List.getD (b_3).1 1 (0 : Int)) :: ([] : List Int))), true)) fun y3 =>
                          cond (decide ((List.length ((y3).1).1) = (List.length ((y3).1).1)))
                            (
                            some y3)
                            (
                            none))
                          (
                          none))
                        (
                        none)))))
                (
                none))
              (
              none))))))

abbrev c_lodgeref3_MatResult (N : Nat) : CallSpec := ⟨69, ps_lodgeref3_MatResult, rs_lodgeref3_MatResult, fun x => F_lodgeref3_MatResult N x.1 x.2.1 x.2.2.1 x.2.2.2.1⟩

theorem cs_lodgeref3_MatResult_ok (S : Nat → Addr) (N : Nat) : CallsOK Go.Proofs.Tryd.prog E S (cs_lodgeref3_MatResult N) :=
  .cons (F_lodgeref3_descs_ok S N) (.cons (F_lodgeref3_narrow_ok S N) (.cons (F_lodgeref3_seen_ok S N) (.nil)))
theorem F_lodgeref3_MatResult_ok (S : Nat → Addr) (N : Nat) : ∀ x y, (c_lodgeref3_MatResult N).g x = some y → FCon Go.Proofs.Tryd.prog E S 69 ps_lodgeref3_MatResult rs_lodgeref3_MatResult x y := by
  intro x y h
  exact fun_spec E_ok mixed (cs_lodgeref3_MatResult_ok S N) (f := 69) (fi := ⟨b_lodgeref3_MatResult, 71, Go.Proofs.Tryd.f69.results.toList⟩) (by kernel_rfl) (ls := []) (.nil) (by kernel_rfl) (ps := ps_lodgeref3_MatResult) (rs := rs_lodgeref3_MatResult) (Eq.trans (b := F_lodgeref3_MatResult N x.1 x.2.1 x.2.2.1 x.2.2.2.1) (by kernel_rfl) h)

/-! lodge/lodgeref3.ConvResult -/

abbrev ps_lodgeref3_ConvResult : List Ty := [(.sl (.int .i64)), (.st (.pair (.sl (.int .i64)) .bool)), (.st (.pair (.sl (.int .i64)) .bool))]
abbrev rs_lodgeref3_ConvResult : List Slot := [.ag [.sl (.int .i64), .d .bool], .data (.int .i64)]
abbrev cs_lodgeref3_ConvResult (N : Nat) : List CallSpec := [c_lodgeref3_descs N, c_lodgeref3_narrow N, c_lodgeref3_seen N]
noncomputable abbrev b_lodgeref3_ConvResult : Code := (Go.Proofs.Tryd.f70.body).getD .skip

abbrev j_lodgeref3_ConvResult : Joins := [(17, [(AX.normal, [.dead, .dead, .dead, .dead, .box [.d (.st (.pair (.sl (.int .i64)) .bool))], .box [.d (.st (.pair (.sl (.int .i64)) .bool))], .box [.sl (.int .i64), .d .bool], .dead, .dead, .data (.int .i64), .data (.int .i64), .dead, .dead, .dead, .dead, .dead, .dead, .dead, .dead, .dead, .dead, .dead, .dead, .dead, .dead, .dead, .dead, .dead, .dead, .dead, .dead, .dead, .dead, .dead, .dead, .dead, .dead, .dead, .dead, .dead, .dead, .dead, .dead, .dead, .dead, .dead, .dead, .dead, .dead, .dead, .dead, .dead, .dead, .dead, .dead, .dead, .dead, .dead, .dead, .dead, .dead, .dead, .dead, .dead, .dead, .dead, .dead, .dead, .dead, .dead, .dead, .dead, .dead, .dead, .dead, .dead, .dead, .dead, .dead, .dead, .dead, .dead, .dead, .dead, .dead, .dead, .dead, .dead, .dead, .dead, .dead, .dead, .dead, .dead, .dead, .dead, .dead, .dead, .dead, .dead, .dead, .dead, .dead, .dead, .dead, .dead, .dead, .dead, .data .bool, .dead, .dead, .dead, .dead, .dead, .dead, .dead, .dead, .dead, .dead, .dead, .dead, .dead, .dead, .dead, .dead, .dead, .dead, .dead, .dead, .dead, .dead, .dead, .dead, .dead, .dead, .dead, .dead, .dead, .dead, .dead, .dead, .dead, .dead, .dead, .dead, .dead, .dead, .dead, .dead, .dead, .dead])]),
  (14, [(AX.normal, [.dead, .dead, .dead, .dead, .box [.d (.st (.pair (.sl (.int .i64)) .bool))], .box [.d (.st (.pair (.sl (.int .i64)) .bool))], .box [.sl (.int .i64), .d .bool], .dead, .dead, .data (.int .i64), .data (.int .i64), .dead, .dead, .dead, .dead, .dead, .dead, .dead, .dead, .dead, .dead, .dead, .dead, .dead, .dead, .dead, .dead, .dead, .dead, .dead, .dead, .dead, .dead, .dead, .dead, .dead, .dead, .dead, .dead, .dead, .dead, .dead, .dead, .dead, .dead, .dead, .dead, .dead, .dead, .dead, .dead, .dead, .dead, .dead, .dead, .dead, .dead, .dead, .dead, .dead, .dead, .dead, .dead, .dead, .dead, .dead, .dead, .dead, .dead, .dead, .dead, .dead, .dead, .dead, .dead, .dead, .dead, .dead, .dead, .dead, .dead, .data .bool, .dead, .dead, .dead, .dead, .dead, .dead, .dead, .dead, .dead, .dead, .dead, .dead, .dead, .dead, .dead, .dead, .dead, .dead, .dead, .dead, .dead, .dead, .dead, .dead, .dead, .dead, .dead, .dead, .dead, .dead, .dead, .dead, .dead, .dead, .dead, .dead, .dead, .dead, .dead, .dead, .dead, .dead, .dead, .dead, .dead, .dead, .dead, .dead, .dead, .dead, .dead, .dead, .dead, .dead, .dead, .dead, .dead, .dead, .dead, .dead, .dead, .dead, .dead, .dead, .dead, .dead, .dead, .dead, .dead])]),
  (9, [(AX.normal, [.data (.sl (.int .i64)), .dead, .dead, .dead, .box [.d (.st (.pair (.sl (.int .i64)) .bool))], .box [.d (.st (.pair (.sl (.int .i64)) .bool))], .box [.sl (.int .i64), .d .bool], .dead, .dead, .dead, .dead, .dead, .dead, .dead, .dead, .dead, .dead, .dead, .dead, .dead, .dead, .dead, .dead, .dead, .dead, .dead, .dead, .dead, .dead, .dead, .dead, .dead, .dead, .dead, .dead, .dead, .dead, .dead, .dead, .dead, .dead, .dead, .dead, .dead, .dead, .dead, .dead, .dead, .dead, .dead, .dead, .dead, .dead, .data .bool, .dead, .dead, .dead, .dead, .dead, .dead, .dead, .dead, .dead, .dead, .dead, .dead, .dead, .dead, .dead, .dead, .dead, .dead, .dead, .dead, .dead, .dead, .dead, .dead, .dead, .dead, .dead, .dead, .dead, .dead, .dead, .dead, .dead, .dead, .dead, .dead, .dead, .dead, .dead, .dead, .dead, .dead, .dead, .dead, .dead, .dead, .dead, .dead, .dead, .dead, .dead, .dead, .dead, .dead, .dead, .dead, .dead, .dead, .dead, .dead, .dead, .dead, .dead, .dead, .dead, .dead, .dead, .dead, .dead, .dead, .dead, .dead, .dead, .dead, .dead, .dead, .dead, .dead, .dead, .dead, .dead, .dead, .dead, .dead, .dead, .dead, .dead, .dead, .dead, .dead, .dead, .dead, .dead, .dead, .dead, .dead, .dead])])]
def F_lodgeref3_ConvResult (N : Nat) (args_0 : List Int) (a_1 : (List Int × Bool)) (k_2 : (List Int × Bool)) : Option ((List Int × (Bool × Unit)) × (Int × Unit)) :=
  cond (decide (@Ne Int (Nat.cast (List.length args_0) : Int) (3 : Int)))
    (
    some ((([] : List Int), (false, ())), ((101 : Int), ())))
    (
    Option.bind (F_lodgeref3_descs N (a_1 :: (k_2 :: ([] : List ((List Int) × Bool))))) fun y0 =>
    cond (decide (@Ne Int (y0).1 (0 : Int)))
      (
      some ((([] : List Int), (false, ())), y0))
      (
      Option.bind (
          cond (decide (@Ne Int (Nat.cast (List.length (a_1).1) : Int) (3 : Int)))
            (
            some (args_0, ((a_1, ()), ((k_2, ()), ((([] : List Int), (false, ())), (true, ()))))))
            (
            cond (decide (@Ne Int (Nat.cast (List.length (k_2).1) : Int) (4 : Int)))
              (
              some (args_0, ((a_1, ()), ((k_2, ()), ((([] : List Int), (false, ())), (true, ()))))))
              (
              cond (a_1).2
                (
                some (args_0, ((a_1, ()), ((k_2, ()), ((([] : List Int), (false, ())), (true, ()))))))
                (
                cond (k_2).2
                  (
                  some (args_0, ((a_1, ()), ((k_2, ()), ((([] : List Int), (false, ())), (true, ()))))))
                  (
                  cond (decide (2 < (List.length (a_1).1)))
                    (
                    cond (decide (2 < (List.length (k_2).1)))
                      (
                      some (args_0, ((a_1, ()), ((k_2, ()), ((([] : List Int), (false, ())), ((decide (@Ne Int (List.getD (a_1).1 2 (0 : Int)) (List.getD (k_2).1 2 (0 : Int)))), ()))))))
                      (
                      none))
                    (
                    none)))))) fun y1 =>
      cond (((((y1).2).2).2).2).1
        (
        some ((([] : List Int), (false, ())), ((101 : Int), ())))
        (
        cond (decide (0 < (List.length (y1).1)))
          (
          cond (decide (1 < (List.length (y1).1)))
            (
            Option.bind (
                cond (decide ((List.getD (y1).1 0 (0 : Int)) < (1 : Int)))
                  (
                  cond (decide ((List.length (((((y1).2).2).2).1).1) = (List.length (((((y1).2).2).2).1).1)))
                    (
                    some (((y1).2).1, ((((y1).2).2).1, (((((y1).2).2).2).1, ((List.getD (y1).1 0 (0 : Int)), ((List.getD (y1).1 1 (0 : Int)), (true, ())))))))
                    (
                    none))
                  (
                  cond (decide ((16 : Int) < (List.getD (y1).1 0 (0 : Int))))
                    (
                    cond (decide ((List.length (((((y1).2).2).2).1).1) = (List.length (((((y1).2).2).2).1).1)))
                      (
                      some (((y1).2).1, ((((y1).2).2).1, (((((y1).2).2).2).1, ((List.getD (y1).1 0 (0 : Int)), ((List.getD (y1).1 1 (0 : Int)), (true, ())))))))
                      (
                      none))
                    (
                    cond (decide ((List.getD (y1).1 1 (0 : Int)) < (0 : Int)))
                      (
                      cond (decide ((List.length (((((y1).2).2).2).1).1) = (List.length (((((y1).2).2).2).1).1)))
                        (
                        some (((y1).2).1, ((((y1).2).2).1, (((((y1).2).2).2).1, ((List.getD (y1).1 0 (0 : Int)), ((List.getD (y1).1 1 (0 : Int)), (true, ())))))))
                        (
                        none))
                      (
                      cond (decide ((15 : Int) < (List.getD (y1).1 1 (0 : Int))))
                        (
                        cond (decide ((List.length (((((y1).2).2).2).1).1) = (List.length (((((y1).2).2).2).1).1)))
                          (
                          some (((y1).2).1, ((((y1).2).2).1, (((((y1).2).2).2).1, ((List.getD (y1).1 0 (0 : Int)), ((List.getD (y1).1 1 (0 : Int)), (true, ())))))))
                          (
                          none))
                        (
                        cond (decide (2 < (List.length (y1).1)))
                          (
                          Option.bind (F_lodgeref3_narrow N (List.getD (y1).1 2 (0 : Int))) fun y2 =>
                          cond (decide ((List.length (((((y1).2).2).2).1).1) = (List.length (((((y1).2).2).2).1).1)))
                            (
                            some (((y1).2).1, ((((y1).2).2).1, (((((y1).2).2).2).1, ((List.getD (y1).1 0 (0 : Int)), ((List.getD (y1).1 1 (0 : Int)), ((Bool.not (y2).1), ())))))))
                            (
                            none))
                          (
                          none)))))) fun y3 =>
            cond ((((((y3).2).2).2).2).2).1
              (
              some ((([] : List Int), (false, ())), ((102 : Int), ())))
              (
              Option.bind (
                  cond (decide (0 < (List.length ((((y3).2).1).1).1)))
                    (
                    cond (decide (0 < (List.length (((y3).1).1).1)))
                      (
                      cond (decide ((wi64 ((List.getD (((y3).1).1).1 0 (0 : Int)) + (wi64 ((2 : Int) * (((((y3).2).2).2).2).1)))) < (List.getD ((((y3).2).1).1).1 0 (0 : Int))))
                        (
                        cond (decide ((List.length ((((y3).2).2).1).1) = (List.length ((((y3).2).2).1).1)))
                          (
                          some ((y3).1, (((y3).2).1, ((((y3).2).2).1, (((((y3).2).2).2).1, ((((((y3).2).2).2).2).1, (true, ())))))))
                          (
                          none))
                        (
                        cond (decide (1 < (List.length ((((y3).2).1).1).1)))
                          (
                          cond (decide (1 < (List.length (((y3).1).1).1)))
                            (
                            cond (decide ((List.length ((((y3).2).2).1).1) = (List.length ((((y3).2).2).1).1)))
                              (
                              some ((y3).1, (((y3).2).1, ((((y3).2).2).1, (((((y3).2).2).2).1, ((((((y3).2).2).2).2).1, ((decide ((wi64 ((List.getD (((y3).1).1).1 1 (0 : Int)) + (wi64 ((2 : Int) * (((((y3).2).2).2).2).1)))) < (List.getD ((((y3).2).1).1).1 1 (0 : Int)))), ())))))))
                              (
                              none))
                            (
                            none))
                          (
                          none)))
                      (
                      none))
                    (
                    none)) fun y4 =>
              cond ((((((y4).2).2).2).2).2).1
                (
                some ((([] : List Int), (false, ())), ((101 : Int), ())))
                (
                cond (decide (0 < (List.length (((y4).1).1).1)))
                  (
                  cond (decide (0 < (List.length ((((y4).2).1).1).1)))
                    (
                    cond (decide (@Ne Int ((((y4).2).2).2).1 (0 : Int)))
                      (
                      cond (decide (1 < (List.length (((y4).1).1).1)))
                        (
                        cond (decide (1 < (List.length ((((y4).2).1).1).1)))
                          (
                          cond (decide (@Ne Int ((((y4).2).2).2).1 (0 : Int)))
                            (
                            cond (decide (3 < (List.length ((((y4).2).1).1).1)))
                              (
                              Option.bind (F_lodgeref3_seen N (((wi64 ((wi64 (Int.tdiv (wi64 ((wi64 ((List.getD (((y4).1).1).1 0 (0 : Int)) + (wi64 ((2 : Int) * (((((y4).2).2).2).2).1)))) - (List.getD ((((y4).2).1).1).1 0 (0 : Int)))) ((((y4).2).2).2).1)) + (1 : Int))) :: ((wi64 ((wi64 (Int.tdiv (wi64 ((wi64 ((List.getD (((y4).1).1).1 1 (0 : Int)) + (wi64 ((2 : Int) * (((((y4).2).2).2).2).1)))) - (List.getD ((((y4).2).1).1).1 1 (0 : Int)))) ((((y4).2).2).2).1)) + (1 : Int))) :: ((List.getD ((((y4).2).1).1).1 3 (0 : Int)) :: ([] : List Int)))), true)) fun y5 =>
                              cond (decide ((List.length ((y5).1).1) = (List.length ((y5).1).1)))
                                (
                                some y5)
                                (
                                none))
                              (
                              none))
                            (
                            none))
                          (
                          none))
                        (
                        none))
                      (
                      none))
                    (
                    none))
                  (
                  none))))
            (
            none))
          (
          none))))

abbrev c_lodgeref3_ConvResult (N : Nat) : CallSpec := ⟨70, ps_lodgeref3_ConvResult, rs_lodgeref3_ConvResult, fun x => F_lodgeref3_ConvResult N x.1 x.2.1 x.2.2.1⟩

theorem cs_lodgeref3_ConvResult_ok (S : Nat → Addr) (N : Nat) : CallsOK Go.Proofs.Tryd.prog E S (cs_lodgeref3_ConvResult N) :=
  .cons (F_lodgeref3_descs_ok S N) (.cons (F_lodgeref3_narrow_ok S N) (.cons (F_lodgeref3_seen_ok S N) (.nil)))
theorem F_lodgeref3_ConvResult_ok (S : Nat → Addr) (N : Nat) : ∀ x y, (c_lodgeref3_ConvResult N).g x = some y → FCon Go.Proofs.Tryd.prog E S 70 ps_lodgeref3_ConvResult rs_lodgeref3_ConvResult x y := by
  intro x y h
  exact fun_specJ E_ok mixed (cs_lodgeref3_ConvResult_ok S N) (f := 70) (fi := ⟨b_lodgeref3_ConvResult, 151, Go.Proofs.Tryd.f70.results.toList⟩) (by kernel_rfl) (ls := []) (.nil) (js := j_lodgeref3_ConvResult) (by kernel_rfl) (ps := ps_lodgeref3_ConvResult) (rs := rs_lodgeref3_ConvResult) (Eq.trans (b := F_lodgeref3_ConvResult N x.1 x.2.1 x.2.2.1) (by kernel_rfl) h)

/-! lodge/lodgeref3.PoolResult -/

abbrev ps_lodgeref3_PoolResult : List Ty := [(.sl (.int .i64)), (.st (.pair (.sl (.int .i64)) .bool))]
abbrev rs_lodgeref3_PoolResult : List Slot := [.ag [.sl (.int .i64), .d .bool], .data (.int .i64)]
abbrev cs_lodgeref3_PoolResult (N : Nat) : List CallSpec := [c_lodgeref3_ValidDesc N, c_lodgeref3_seen N]
noncomputable abbrev b_lodgeref3_PoolResult : Code := (Go.Proofs.Tryd.f71.body).getD .skip

def F_lodgeref3_PoolResult (N : Nat) (args_0 : List Int) (a_1 : (List Int × Bool)) : Option ((List Int × (Bool × Unit)) × (Int × Unit)) :=
  cond (decide (@Ne Int (Nat.cast (List.length args_0) : Int) (2 : Int)))
    (
    some ((([] : List Int), (false, ())), ((101 : Int), ())))
    (
    Option.bind (F_lodgeref3_ValidDesc N a_1) fun y0 =>
    cond (decide (@Ne Int (y0).1 (0 : Int)))
      (
      some ((([] : List Int), (false, ())), y0))
      (
      cond (decide (@Ne Int (Nat.cast (List.length (a_1).1) : Int) (3 : Int)))
        (
        some ((([] : List Int), (false, ())), ((101 : Int), ())))
        (
        cond (decide (0 < (List.length args_0)))
          (
          cond (decide (1 < (List.length args_0)))
            (
            cond (decide ((List.getD args_0 0 (0 : Int)) < (1 : Int)))
              (
              some ((([] : List Int), (false, ())), ((102 : Int), ())))
              (
              cond (decide ((16 : Int) < (List.getD args_0 0 (0 : Int))))
                (
                some ((([] : List Int), (false, ())), ((102 : Int), ())))
                (
                cond (decide ((List.getD args_0 1 (0 : Int)) < (1 : Int)))
                  (
                  some ((([] : List Int), (false, ())), ((102 : Int), ())))
                  (
                  cond (decide ((16 : Int) < (List.getD args_0 1 (0 : Int))))
                    (
                    some ((([] : List Int), (false, ())), ((102 : Int), ())))
                    (
                    cond (decide (0 < (List.length (a_1).1)))
                      (
                      cond (decide ((List.getD (a_1).1 0 (0 : Int)) < (List.getD args_0 0 (0 : Int))))
                        (
                        some ((([] : List Int), (false, ())), ((101 : Int), ())))
                        (
                        cond (decide (1 < (List.length (a_1).1)))
                          (
                          cond (decide ((List.getD (a_1).1 1 (0 : Int)) < (List.getD args_0 0 (0 : Int))))
                            (
                            some ((([] : List Int), (false, ())), ((101 : Int), ())))
                            (
                            cond (decide (0 < (List.length (a_1).1)))
                              (
                              cond (decide (@Ne Int (List.getD args_0 1 (0 : Int)) (0 : Int)))
                                (
                                cond (decide (1 < (List.length (a_1).1)))
                                  (
                                  cond (decide (@Ne Int (List.getD args_0 1 (0 : Int)) (0 : Int)))
                                    (
                                    cond (decide (2 < (List.length (a_1).1)))
                                      (
                                      Option.bind (F_lodgeref3_seen N (((wi64 ((wi64 (Int.tdiv (wi64 ((List.getD (a_1).1 0 (0 : Int)) - (List.getD args_0 0 (0 : Int)))) (List.getD args_0 1 (0 : Int)))) + (1 : Int))) :: ((wi64 ((wi64 (Int.tdiv (wi64 ((List.getD (a_1).1 1 (0 : Int)) - (List.getD args_0 0 (0 : Int)))) (List.getD args_0 1 (0 : Int)))) + (1 : Int))) :: ((List.getD (a_1).1 2 (0 : Int)) :: ([] : List Int)))), (a_1).2)) fun y1 =>
                                      cond (decide ((List.length ((y1).1).1) = (List.length ((y1).1).1)))
                                        (
                                        some y1)
                                        (
                                        none))
                                      (
                                      none))
                                    (
                                    none))
                                  (
                                  none))
                                (
                                none))
                              (
                              none)))
                          (
                          none)))
                      (
                      none))))))
            (
            none))
          (
          none))))

abbrev c_lodgeref3_PoolResult (N : Nat) : CallSpec := ⟨71, ps_lodgeref3_PoolResult, rs_lodgeref3_PoolResult, fun x => F_lodgeref3_PoolResult N x.1 x.2.1⟩

theorem cs_lodgeref3_PoolResult_ok (S : Nat → Addr) (N : Nat) : CallsOK Go.Proofs.Tryd.prog E S (cs_lodgeref3_PoolResult N) :=
  .cons (F_lodgeref3_ValidDesc_ok S N) (.cons (F_lodgeref3_seen_ok S N) (.nil))
theorem F_lodgeref3_PoolResult_ok (S : Nat → Addr) (N : Nat) : ∀ x y, (c_lodgeref3_PoolResult N).g x = some y → FCon Go.Proofs.Tryd.prog E S 71 ps_lodgeref3_PoolResult rs_lodgeref3_PoolResult x y := by
  intro x y h
  exact fun_spec E_ok mixed (cs_lodgeref3_PoolResult_ok S N) (f := 71) (fi := ⟨b_lodgeref3_PoolResult, 89, Go.Proofs.Tryd.f71.results.toList⟩) (by kernel_rfl) (ls := []) (.nil) (by kernel_rfl) (ps := ps_lodgeref3_PoolResult) (rs := rs_lodgeref3_PoolResult) (Eq.trans (b := F_lodgeref3_PoolResult N x.1 x.2.1) (by kernel_rfl) h)

/-! lodge/lodgeref3.SoftResult -/

abbrev ps_lodgeref3_SoftResult : List Ty := [(.int .i64), (.sl (.st (.pair (.sl (.int .i64)) .bool)))]
abbrev rs_lodgeref3_SoftResult : List Slot := [.ag [.sl (.int .i64), .d .bool], .data (.int .i64)]
abbrev cs_lodgeref3_SoftResult (N : Nat) : List CallSpec := [c_lodgeref3_descs N, c_lodgeref_SameDesc N, c_lodgeref3_seen N]
noncomputable abbrev b_lodgeref3_SoftResult : Code := (Go.Proofs.Tryd.f72.body).getD .skip

abbrev j_lodgeref3_SoftResult : Joins := [(22, [(AX.normal, [.dead, .dead, .dead, .dead, .box [.sl (.int .i64), .d .bool], .dead, .dead, .dead, .box [.d (.st (.pair (.sl (.int .i64)) .bool))], .dead, .dead, .dead, .dead, .dead, .dead, .dead, .dead, .dead, .dead, .dead, .dead, .dead, .dead, .dead, .dead, .dead, .dead, .dead, .dead, .dead, .dead, .dead, .dead, .dead, .dead, .dead, .dead, .dead, .dead, .dead, .dead, .dead, .dead, .dead, .dead, .dead, .dead, .dead, .dead, .dead, .dead, .dead, .data .bool, .dead, .dead, .dead, .dead, .dead, .dead, .dead, .dead, .dead, .dead, .dead, .dead, .dead, .dead, .dead, .dead, .dead, .dead, .dead, .dead, .dead, .dead, .dead, .dead, .dead, .dead, .dead, .dead, .dead, .dead, .dead, .dead, .dead, .dead, .dead, .dead, .dead, .dead, .dead, .dead, .dead, .dead, .dead, .dead, .dead, .dead, .dead, .dead, .dead, .dead, .dead, .dead, .dead, .dead])]),
  (27, [(AX.normal, [.dead, .data (.sl (.st (.pair (.sl (.int .i64)) .bool))), .dead, .dead, .box [.sl (.int .i64), .d .bool], .dead, .dead, .dead, .box [.d (.st (.pair (.sl (.int .i64)) .bool))], .dead, .dead, .dead, .dead, .dead, .dead, .dead, .dead, .dead, .dead, .dead, .dead, .dead, .dead, .dead, .dead, .dead, .dead, .dead, .dead, .dead, .dead, .dead, .dead, .dead, .dead, .dead, .dead, .dead, .dead, .dead, .dead, .dead, .dead, .dead, .dead, .dead, .dead, .dead, .dead, .dead, .dead, .dead, .dead, .dead, .dead, .dead, .dead, .dead, .dead, .dead, .dead, .dead, .dead, .dead, .dead, .dead, .dead, .dead, .dead, .dead, .dead, .dead, .dead, .dead, .dead, .dead, .data .bool, .dead, .dead, .dead, .dead, .dead, .dead, .dead, .dead, .dead, .dead, .dead, .dead, .dead, .dead, .dead, .dead, .dead, .dead, .dead, .dead, .dead, .dead, .dead, .dead, .dead, .dead, .dead, .dead, .dead, .dead])]),
  (2, [(AX.ret, [.dead, .dead, .dead, .dead, .box [.sl (.int .i64), .d .bool], .data (.int .i64), .dead, .dead, .dead, .dead, .dead, .dead, .dead, .dead, .dead, .dead, .dead, .dead, .dead, .dead, .dead, .dead, .dead, .dead, .dead, .dead, .dead, .dead, .dead, .dead, .dead, .dead, .dead, .dead, .dead, .dead, .dead, .dead, .dead, .dead, .dead, .dead, .dead, .dead, .dead, .dead, .dead, .dead, .dead, .dead, .dead, .dead, .dead, .dead, .dead, .dead, .dead, .dead, .dead, .dead, .dead, .dead, .dead, .dead, .dead, .dead, .dead, .dead, .dead, .dead, .dead, .dead, .dead, .dead, .dead, .dead, .dead, .dead, .dead, .dead, .dead, .dead, .dead, .dead, .dead, .dead, .dead, .dead, .dead, .dead, .dead, .dead, .dead, .dead, .dead, .dead, .dead, .dead, .dead, .dead, .dead, .dead, .dead, .dead, .dead, .dead, .dead]), (AX.normal, [.data (.int .i64), .data (.sl (.st (.pair (.sl (.int .i64)) .bool))), .dead, .dead, .box [.sl (.int .i64), .d .bool], .dead, .data (.int .i64), .dead, .dead, .dead, .dead, .dead, .dead, .dead, .dead, .dead, .dead, .dead, .dead, .dead, .dead, .dead, .dead, .dead, .dead, .dead, .dead, .dead, .dead, .dead, .dead, .dead, .dead, .dead, .dead, .dead, .dead, .dead, .dead, .dead, .dead, .dead, .dead, .dead, .dead, .dead, .dead, .dead, .dead, .dead, .dead, .dead, .dead, .dead, .dead, .dead, .dead, .dead, .dead, .dead, .dead, .dead, .dead, .dead, .dead, .dead, .dead, .dead, .dead, .dead, .dead, .dead, .dead, .dead, .dead, .dead, .dead, .dead, .dead, .dead, .dead, .dead, .dead, .dead, .dead, .dead, .dead, .dead, .dead, .dead, .dead, .dead, .dead, .dead, .dead, .dead, .dead, .dead, .dead, .dead, .dead, .dead, .dead, .dead, .dead, .dead, .dead])]),
  (6, [(AX.normal, [.data (.int .i64), .data (.sl (.st (.pair (.sl (.int .i64)) .bool))), .dead, .dead, .box [.sl (.int .i64), .d .bool], .dead, .data (.int .i64), .dead, .dead, .dead, .dead, .dead, .dead, .dead, .dead, .data .bool, .dead, .dead, .dead, .dead, .dead, .dead, .dead, .dead, .dead, .dead, .dead, .dead, .dead, .dead, .dead, .dead, .dead, .dead, .dead, .dead, .dead, .dead, .dead, .dead, .dead, .dead, .dead, .dead, .dead, .dead, .dead, .dead, .dead, .dead, .dead, .dead, .dead, .dead, .dead, .dead, .dead, .dead, .dead, .dead, .dead, .dead, .dead, .dead, .dead, .dead, .dead, .dead, .dead, .dead, .dead, .dead, .dead, .dead, .dead, .dead, .dead, .dead, .dead, .dead, .dead, .dead, .dead, .dead, .dead, .dead, .dead, .dead, .dead, .dead, .dead, .dead, .dead, .dead, .dead, .dead, .dead, .dead, .dead, .dead, .dead, .dead, .dead, .dead, .dead, .dead, .dead])]),
  (4, [(AX.normal, [.data (.int .i64), .data (.sl (.st (.pair (.sl (.int .i64)) .bool))), .dead, .dead, .box [.sl (.int .i64), .d .bool], .dead, .data (.int .i64), .dead, .dead, .dead, .data (.int .i64), .dead, .data .bool, .dead, .dead, .dead, .dead, .dead, .dead, .dead, .dead, .dead, .dead, .dead, .dead, .dead, .dead, .dead, .dead, .dead, .dead, .dead, .dead, .dead, .dead, .dead, .dead, .dead, .dead, .dead, .dead, .dead, .dead, .dead, .dead, .dead, .dead, .dead, .dead, .dead, .dead, .dead, .dead, .dead, .dead, .dead, .dead, .dead, .dead, .dead, .dead, .dead, .dead, .dead, .dead, .dead, .dead, .dead, .dead, .dead, .dead, .dead, .dead, .dead, .dead, .dead, .dead, .dead, .dead, .dead, .dead, .dead, .dead, .dead, .dead, .dead, .dead, .dead, .dead, .dead, .dead, .dead, .dead, .dead, .dead, .dead, .dead, .dead, .dead, .dead, .dead, .dead, .dead, .dead, .dead, .dead, .dead])])]
def F_lodgeref3_SoftResult (N : Nat) (op_0 : Int) (ins_1 : List ((List Int × Bool))) : Option ((List Int × (Bool × Unit)) × (Int × Unit)) :=
  Option.bind (
      Option.bind (
          cond (decide (op_0 = (16 : Int)))
            (
            some (op_0, (ins_1, ((([] : List Int), (false, ())), ((1 : Int), (op_0, (true, ())))))))
            (
            some (op_0, (ins_1, ((([] : List Int), (false, ())), ((1 : Int), (op_0, ((decide (op_0 = (17 : Int))), ())))))))) fun y0 =>
      cond ((((((y0).2).2).2).2).2).1
        (
        cond (decide ((List.length ((((y0).2).2).1).1) = (List.length ((((y0).2).2).1).1)))
          (
          some (Sum.inr ((y0).1, (((y0).2).1, ((((y0).2).2).1, ((2 : Int), ()))))))
          (
          none))
        (
        Option.bind (
            cond (decide ((((((y0).2).2).2).2).1 = (19 : Int)))
              (
              cond (decide ((List.length ((((y0).2).2).1).1) = (List.length ((((y0).2).2).1).1)))
                (
                some ((y0).1, (((y0).2).1, ((((y0).2).2).1, (((((y0).2).2).2).1, (true, ()))))))
                (
                none))
              (
              cond (decide ((List.length ((((y0).2).2).1).1) = (List.length ((((y0).2).2).1).1)))
                (
                some ((y0).1, (((y0).2).1, ((((y0).2).2).1, (((((y0).2).2).2).1, ((decide ((((((y0).2).2).2).2).1 = (20 : Int))), ()))))))
                (
                none))) fun y1 =>
        cond (((((y1).2).2).2).2).1
          (
          cond (decide ((List.length ((((y1).2).2).1).1) = (List.length ((((y1).2).2).1).1)))
            (
            some (Sum.inr ((y1).1, (((y1).2).1, ((((y1).2).2).1, (((((y1).2).2).2).1, ()))))))
            (
            none))
          (
          some (Sum.inl ((([] : List Int), (false, ())), ((103 : Int), ())))))) fun y2 =>
  Sum.elim (fun y3 =>
    cond (decide ((List.length ((y3).1).1) = (List.length ((y3).1).1)))
      (
      some y3)
      (
      none))
    (fun y4 =>
    cond (decide (@Ne Int (Nat.cast (List.length ((y4).2).1) : Int) ((((y4).2).2).2).1))
      (
      some ((([] : List Int), (false, ())), ((101 : Int), ())))
      (
      Option.bind (F_lodgeref3_descs N ((y4).2).1) fun y5 =>
      cond (decide (@Ne Int (y5).1 (0 : Int)))
        (
        some ((([] : List Int), (false, ())), y5))
        (
        cond (decide (0 < (List.length ((y4).2).1)))
          (
          cond (decide ((y4).1 = (16 : Int)))
            (
            Option.bind (
                cond ((List.getD ((y4).2).1 0 (([] : List Int), false))).2
                  (
                  cond (decide ((List.length ((((y4).2).2).1).1) = (List.length ((((y4).2).2).1).1)))
                    (
                    some ((((y4).2).2).1, (((List.getD ((y4).2).1 0 (([] : List Int), false)), ()), (true, ()))))
                    (
                    none))
                  (
                  cond (decide ((Nat.cast (List.length ((List.getD ((y4).2).1 0 (([] : List Int), false))).1) : Int) < (1 : Int)))
                    (
                    cond (decide ((List.length ((((y4).2).2).1).1) = (List.length ((((y4).2).2).1).1)))
                      (
                      some ((((y4).2).2).1, (((List.getD ((y4).2).1 0 (([] : List Int), false)), ()), (true, ()))))
                      (
                      none))
                    (
                    cond (decide (1 < (List.length ((y4).2).1)))
                      (
                      Option.bind (F_lodgeref_SameDesc N (List.getD ((y4).2).1 1 (([] : List Int), false)) (((256 : Int) :: ([] : List Int)), true)) fun y6 =>
                      cond (decide ((List.length ((((y4).2).2).1).1) = (List.length ((((y4).2).2).1).1)))
                        (
                        some ((((y4).2).2).1, (((List.getD ((y4).2).1 0 (([] : List Int), false)), ()), ((Bool.not (y6).1), ()))))
                        (
                        none))
                      (
                      none)))) fun y7 =>
            cond (((y7).2).2).1
              (
              some ((([] : List Int), (false, ())), ((101 : Int), ())))
              (
              Option.bind (F_lodgeref3_seen N (((y7).2).1).1) fun y8 =>
              cond (decide ((List.length ((y8).1).1) = (List.length ((y8).1).1)))
                (
                some y8)
                (
                none)))
            (
            cond (decide ((y4).1 = (17 : Int)))
              (
              Option.bind (
                  cond (decide (@Ne Int (Nat.cast (List.length ((List.getD ((y4).2).1 0 (([] : List Int), false))).1) : Int) (2 : Int)))
                    (
                    cond (decide ((List.length ((((y4).2).2).1).1) = (List.length ((((y4).2).2).1).1)))
                      (
                      some (((y4).2).1, ((((y4).2).2).1, (((List.getD ((y4).2).1 0 (([] : List Int), false)), ()), (true, ())))))
                      (
                      none))
                    (
                    cond (decide (1 < (List.length ((y4).2).1)))
                      (
                      cond (decide (@Ne Int (Nat.cast (List.length ((List.getD ((y4).2).1 1 (([] : List Int), false))).1) : Int) (1 : Int)))
                        (
                        cond (decide ((List.length ((((y4).2).2).1).1) = (List.length ((((y4).2).2).1).1)))
                          (
                          some (((y4).2).1, ((((y4).2).2).1, (((List.getD ((y4).2).1 0 (([] : List Int), false)), ()), (true, ())))))
                          (
                          none))
                        (
                        cond (decide (1 < (List.length ((y4).2).1)))
                          (
                          cond (decide ((List.length ((((y4).2).2).1).1) = (List.length ((((y4).2).2).1).1)))
                            (
                            some (((y4).2).1, ((((y4).2).2).1, (((List.getD ((y4).2).1 0 (([] : List Int), false)), ()), ((Bool.not ((List.getD ((y4).2).1 1 (([] : List Int), false))).2), ())))))
                            (
                            none))
                          (
                          none)))
                      (
                      none))) fun y9 =>
              cond ((((y9).2).2).2).1
                (
                some ((([] : List Int), (false, ())), ((101 : Int), ())))
                (
                cond (decide (1 < (List.length (y9).1)))
                  (
                  cond (decide (0 < (List.length ((List.getD (y9).1 1 (([] : List Int), false))).1)))
                    (
                    cond (decide (1 < (List.length (((((y9).2).2).1).1).1)))
                      (
                      Option.bind (F_lodgeref3_seen N (((List.getD ((List.getD (y9).1 1 (([] : List Int), false))).1 0 (0 : Int)) :: ((List.getD (((((y9).2).2).1).1).1 1 (0 : Int)) :: ([] : List Int))), (((((y9).2).2).1).1).2)) fun y10 =>
                      cond (decide ((List.length ((y10).1).1) = (List.length ((y10).1).1)))
                        (
                        some y10)
                        (
                        none))
                      (
                      none))
                    (
                    none))
                  (
                  none)))
              (
              cond (decide ((Nat.cast (List.length ((List.getD ((y4).2).1 0 (([] : List Int), false))).1) : Int) < (1 : Int)))
                (
                some ((([] : List Int), (false, ())), ((101 : Int), ())))
                (
                cond (decide ((0 : Int) ≤ (wi64 ((Nat.cast (List.length ((List.getD ((y4).2).1 0 (([] : List Int), false))).1) : Int) - (1 : Int)))))
                  (
                  cond (decide ((Int.toNat (wi64 ((Nat.cast (List.length ((List.getD ((y4).2).1 0 (([] : List Int), false))).1) : Int) - (1 : Int)))) ≤ (List.length ((List.getD ((y4).2).1 0 (([] : List Int), false))).1)))
                    (
                    Option.bind (F_lodgeref3_seen N ((List.take ((Int.toNat (wi64 ((Nat.cast (List.length ((List.getD ((y4).2).1 0 (([] : List Int), false))).1) : Int) - (1 : Int)))) - (0 : Nat)) ((List.getD ((y4).2).1 0 (([] : List Int), false))).1), true)) fun y11 =>
                    cond (decide ((List.length ((y11).1).1) = (List.length ((y11).1).1)))
                      (
                      some y11)
                      (
                      none))
                    (
                    none))
                  (
                  none)))))
          (
          none)))) y2

abbrev c_lodgeref3_SoftResult (N : Nat) : CallSpec := ⟨72, ps_lodgeref3_SoftResult, rs_lodgeref3_SoftResult, fun x => F_lodgeref3_SoftResult N x.1 x.2.1⟩

theorem cs_lodgeref3_SoftResult_ok (S : Nat → Addr) (N : Nat) : CallsOK Go.Proofs.Tryd.prog E S (cs_lodgeref3_SoftResult N) :=
  .cons (F_lodgeref3_descs_ok S N) (.cons (F_lodgeref_SameDesc_ok S N) (.cons (F_lodgeref3_seen_ok S N) (.nil)))
theorem F_lodgeref3_SoftResult_ok (S : Nat → Addr) (N : Nat) : ∀ x y, (c_lodgeref3_SoftResult N).g x = some y → FCon Go.Proofs.Tryd.prog E S 72 ps_lodgeref3_SoftResult rs_lodgeref3_SoftResult x y := by
  intro x y h
  exact fun_specJ E_ok mixed (cs_lodgeref3_SoftResult_ok S N) (f := 72) (fi := ⟨b_lodgeref3_SoftResult, 107, Go.Proofs.Tryd.f72.results.toList⟩) (by kernel_rfl) (ls := []) (.nil) (js := j_lodgeref3_SoftResult) (by kernel_rfl) (ps := ps_lodgeref3_SoftResult) (rs := rs_lodgeref3_SoftResult) (Eq.trans (b := F_lodgeref3_SoftResult N x.1 x.2.1) (by kernel_rfl) h)

/-! lodge/lodgeref3.Result -/

abbrev ps_lodgeref3_Result : List Ty := [(.int .i64), (.sl (.int .i64)), (.sl (.st (.pair (.sl (.int .i64)) .bool)))]
abbrev rs_lodgeref3_Result : List Slot := [.ag [.sl (.int .i64), .d .bool], .data (.int .i64)]
abbrev cs_lodgeref3_Result (N : Nat) : List CallSpec := [c_lodgeref3_ValidDesc N, c_lodgeref_Ints N, c_lodgeref3_ElemResult N, c_lodgeref3_Elems N, c_lodgeref3_Known N, c_lodgeref3_Ins N, c_lodgeref3_Args N, c_lodgeref3_seen N, c_lodgeref3_MatResult N, c_lodgeref3_ConvResult N, c_lodgeref3_PoolResult N, c_lodgeref3_SoftResult N]
noncomputable abbrev b_lodgeref3_Result : Code := (Go.Proofs.Tryd.f46.body).getD .skip

abbrev j_lodgeref3_Result : Joins := [(19, [(AX.normal, [.data (.int .i64), .data (.sl (.int .i64)), .data (.sl (.st (.pair (.sl (.int .i64)) .bool))), .dead, .dead, .dead, .box [.sl (.int .i64), .d .bool], .dead, .dead, .dead, .dead, .dead, .dead, .dead, .dead, .dead, .dead, .dead, .dead, .dead, .dead, .dead, .dead, .dead, .dead, .dead, .dead, .dead, .dead, .dead, .dead, .dead, .dead, .dead, .dead, .dead, .dead, .dead, .dead, .dead, .dead, .dead, .dead, .dead, .dead, .dead, .dead, .dead, .dead, .dead, .dead, .dead, .dead, .dead, .dead, .dead, .dead, .dead, .dead, .dead, .dead, .dead, .dead, .dead, .dead, .dead, .dead, .dead, .dead, .dead, .dead, .dead, .dead, .dead, .dead, .dead, .dead, .dead, .dead, .dead, .data .bool, .dead, .dead, .dead, .dead, .dead, .dead, .dead, .dead, .dead, .dead, .dead, .dead, .dead, .dead, .dead, .dead, .dead, .dead, .dead, .dead, .dead, .dead, .dead, .dead, .dead, .dead, .dead, .dead, .dead, .dead, .dead, .dead, .dead, .dead, .dead, .dead, .dead, .dead, .dead, .dead, .dead, .dead, .dead, .dead, .dead, .dead, .dead, .dead, .dead, .dead, .dead, .dead, .dead, .dead, .dead, .dead, .dead, .dead, .dead, .dead])]),
  (16, [(AX.normal, [.data (.int .i64), .data (.sl (.int .i64)), .data (.sl (.st (.pair (.sl (.int .i64)) .bool))), .dead, .dead, .dead, .box [.sl (.int .i64), .d .bool], .dead, .dead, .dead, .dead, .dead, .dead, .dead, .dead, .dead, .dead, .dead, .dead, .dead, .dead, .dead, .dead, .dead, .dead, .dead, .dead, .dead, .dead, .dead, .dead, .dead, .dead, .dead, .dead, .dead, .dead, .dead, .dead, .dead, .data (.int .i64), .dead, .dead, .dead, .dead, .dead, .dead, .dead, .dead, .dead, .dead, .dead, .dead, .dead, .dead, .dead, .dead, .dead, .dead, .dead, .dead, .dead, .dead, .dead, .dead, .dead, .dead, .dead, .dead, .dead, .data .bool, .dead, .dead, .dead, .dead, .dead, .dead, .dead, .dead, .dead, .dead, .dead, .dead, .dead, .dead, .dead, .dead, .dead, .dead, .dead, .dead, .dead, .dead, .dead, .dead, .dead, .dead, .dead, .dead, .dead, .dead, .dead, .dead, .dead, .dead, .dead, .dead, .dead, .dead, .dead, .dead, .dead, .dead, .dead, .dead, .dead, .dead, .dead, .dead, .dead, .dead, .dead, .dead, .dead, .dead, .dead, .dead, .dead, .dead, .dead, .dead, .dead, .dead, .dead, .dead, .dead, .dead, .dead, .dead, .dead, .dead])]),
  (8, [(AX.normal, [.data (.int .i64), .data (.sl (.int .i64)), .data (.sl (.st (.pair (.sl (.int .i64)) .bool))), .dead, .dead, .dead, .box [.sl (.int .i64), .d .bool], .dead, .dead, .dead, .dead, .dead, .dead, .dead, .dead, .dead, .dead, .dead, .dead, .dead, .dead, .dead, .dead, .dead, .dead, .dead, .dead, .dead, .dead, .dead, .dead, .dead, .dead, .dead, .dead, .dead, .dead, .dead, .data .bool, .dead, .dead, .dead, .dead, .dead, .dead, .dead, .dead, .dead, .dead, .dead, .dead, .dead, .dead, .dead, .dead, .dead, .dead, .dead, .dead, .dead, .dead, .dead, .dead, .dead, .dead, .dead, .dead, .dead, .dead, .dead, .dead, .dead, .dead, .dead, .dead, .dead, .dead, .dead, .dead, .dead, .dead, .dead, .dead, .dead, .dead, .dead, .dead, .dead, .dead, .dead, .dead, .dead, .dead, .dead, .dead, .dead, .dead, .dead, .dead, .dead, .dead, .dead, .dead, .dead, .dead, .dead, .dead, .dead, .dead, .dead, .dead, .dead, .dead, .dead, .dead, .dead, .dead, .dead, .dead, .dead, .dead, .dead, .dead, .dead, .dead, .dead, .dead, .dead, .dead, .dead, .dead, .dead, .dead, .dead, .dead, .dead, .dead, .dead, .dead, .dead, .dead])])]
def F_lodgeref3_Result (N : Nat) (op_0 : Int) (args_1 : List Int) (ins_2 : List ((List Int × Bool))) : Option ((List Int × (Bool × Unit)) × (Int × Unit)) :=
  Option.bind (F_lodgeref3_Known N op_0) fun y0 =>
  cond (Bool.not (y0).1)
    (
    some ((([] : List Int), (false, ())), ((103 : Int), ())))
    (
    cond (decide (op_0 ≤ (11 : Int)))
      (
      Option.bind (F_lodgeref3_ElemResult N op_0 args_1 ins_2) fun y1 =>
      cond (decide ((List.length ((y1).1).1) = (List.length ((y1).1).1)))
        (
        some y1)
        (
        none))
      (
      Option.bind (
          Option.bind (F_lodgeref3_Ins N op_0) fun y2 =>
          cond (decide (@Ne Int (Nat.cast (List.length ins_2) : Int) (y2).1))
            (
            some (op_0, (args_1, (ins_2, ((([] : List Int), (false, ())), (true, ()))))))
            (
            cond (decide (@Ne Int op_0 (18 : Int)))
              (
              Option.bind (F_lodgeref3_Args N op_0) fun y3 =>
              some (op_0, (args_1, (ins_2, ((([] : List Int), (false, ())), ((decide (@Ne Int (Nat.cast (List.length args_1) : Int) (y3).1)), ()))))))
              (
              some (op_0, (args_1, (ins_2, ((([] : List Int), (false, ())), (false, ())))))))) fun y4 =>
      cond (((((y4).2).2).2).2).1
        (
        some ((([] : List Int), (false, ())), ((101 : Int), ())))
        (
        cond (decide ((y4).1 = (12 : Int)))
          (
          cond (decide (0 < (List.length ((y4).2).1)))
            (
            cond (decide (1 < (List.length ((y4).2).1)))
              (
              cond (decide (0 < (List.length (((y4).2).2).1)))
                (
                cond (decide (1 < (List.length (((y4).2).2).1)))
                  (
                  Option.bind (F_lodgeref3_MatResult N (List.getD ((y4).2).1 0 (0 : Int)) (List.getD ((y4).2).1 1 (0 : Int)) (List.getD (((y4).2).2).1 0 (([] : List Int), false)) (List.getD (((y4).2).2).1 1 (([] : List Int), false))) fun y5 =>
                  cond (decide ((List.length ((y5).1).1) = (List.length ((y5).1).1)))
                    (
                    some y5)
                    (
                    none))
                  (
                  none))
                (
                none))
              (
              none))
            (
            none))
          (
          cond (decide ((y4).1 = (13 : Int)))
            (
            cond (decide (0 < (List.length (((y4).2).2).1)))
              (
              cond (decide (1 < (List.length (((y4).2).2).1)))
                (
                Option.bind (F_lodgeref3_ConvResult N ((y4).2).1 (List.getD (((y4).2).2).1 0 (([] : List Int), false)) (List.getD (((y4).2).2).1 1 (([] : List Int), false))) fun y6 =>
                cond (decide ((List.length ((y6).1).1) = (List.length ((y6).1).1)))
                  (
                  some y6)
                  (
                  none))
                (
                none))
              (
              none))
            (
            Option.bind (
                cond (decide ((y4).1 = (14 : Int)))
                  (
                  cond (decide ((List.length (((((y4).2).2).2).1).1) = (List.length (((((y4).2).2).2).1).1)))
                    (
                    some ((y4).1, (((y4).2).1, ((((y4).2).2).1, (((((y4).2).2).2).1, ((y4).1, (true, ())))))))
                    (
                    none))
                  (
                  cond (decide ((List.length (((((y4).2).2).2).1).1) = (List.length (((((y4).2).2).2).1).1)))
                    (
                    some ((y4).1, (((y4).2).1, ((((y4).2).2).1, (((((y4).2).2).2).1, ((y4).1, ((decide ((y4).1 = (15 : Int))), ())))))))
                    (
                    none))) fun y7 =>
            cond ((((((y7).2).2).2).2).2).1
              (
              cond (decide (0 < (List.length (((y7).2).2).1)))
                (
                Option.bind (F_lodgeref3_PoolResult N ((y7).2).1 (List.getD (((y7).2).2).1 0 (([] : List Int), false))) fun y8 =>
                cond (decide ((List.length ((y8).1).1) = (List.length ((y8).1).1)))
                  (
                  some y8)
                  (
                  none))
                (
                none))
              (
              Option.bind (
                  cond (decide ((((((y7).2).2).2).2).1 = (16 : Int)))
                    (
                    cond (decide ((List.length (((((y7).2).2).2).1).1) = (List.length (((((y7).2).2).2).1).1)))
                      (
                      some ((y7).1, (((y7).2).1, ((((y7).2).2).1, (((((y7).2).2).2).1, (true, ()))))))
                      (
                      none))
                    (
                    cond (decide ((((((y7).2).2).2).2).1 = (17 : Int)))
                      (
                      cond (decide ((List.length (((((y7).2).2).2).1).1) = (List.length (((((y7).2).2).2).1).1)))
                        (
                        some ((y7).1, (((y7).2).1, ((((y7).2).2).1, (((((y7).2).2).2).1, (true, ()))))))
                        (
                        none))
                      (
                      cond (decide ((((((y7).2).2).2).2).1 = (19 : Int)))
                        (
                        cond (decide ((List.length (((((y7).2).2).2).1).1) = (List.length (((((y7).2).2).2).1).1)))
                          (
                          some ((y7).1, (((y7).2).1, ((((y7).2).2).1, (((((y7).2).2).2).1, (true, ()))))))
                          (
                          none))
                        (
                        cond (decide ((List.length (((((y7).2).2).2).1).1) = (List.length (((((y7).2).2).2).1).1)))
                          (
                          some ((y7).1, (((y7).2).1, ((((y7).2).2).1, (((((y7).2).2).2).1, ((decide ((((((y7).2).2).2).2).1 = (20 : Int))), ()))))))
                          (
                          none))))) fun y9 =>
              cond (((((y9).2).2).2).2).1
                (
                Option.bind (F_lodgeref3_SoftResult N (y9).1 (((y9).2).2).1) fun y10 =>
                cond (decide ((List.length ((y10).1).1) = (List.length ((y10).1).1)))
                  (
                  some y10)
                  (
                  none))
                (
                cond (decide (0 < (List.length (((y9).2).2).1)))
                  (
                  Option.bind (F_lodgeref3_ValidDesc N (List.getD (((y9).2).2).1 0 (([] : List Int), false))) fun y11 =>
                  cond (decide (@Ne Int (y11).1 (0 : Int)))
                    (
                    some ((([] : List Int), (false, ())), y11))
                    (
                    cond (decide ((y9).1 = (21 : Int)))
                      (
                      cond (decide (@Ne Int (Nat.cast (List.length ((List.getD (((y9).2).2).1 0 (([] : List Int), false))).1) : Int) (2 : Int)))
                        (
                        some ((([] : List Int), (false, ())), ((101 : Int), ())))
                        (
                        cond (decide (1 < (List.length ((List.getD (((y9).2).2).1 0 (([] : List Int), false))).1)))
                          (
                          cond (decide (0 < (List.length ((List.getD (((y9).2).2).1 0 (([] : List Int), false))).1)))
                            (
                            Option.bind (F_lodgeref3_seen N (((List.getD ((List.getD (((y9).2).2).1 0 (([] : List Int), false))).1 1 (0 : Int)) :: ((List.getD ((List.getD (((y9).2).2).1 0 (([] : List Int), false))).1 0 (0 : Int)) :: ([] : List Int))), ((List.getD (((y9).2).2).1 0 (([] : List Int), false))).2)) fun y12 =>
                            cond (decide ((List.length ((y12).1).1) = (List.length ((y12).1).1)))
                              (
                              some y12)
                              (
                              none))
                            (
                            none))
                          (
                          none)))
                      (
                      Option.bind (F_lodgeref_Ints N ((y9).2).1) fun y13 =>
                      cond (decide (((0 : Nat) + (List.length (y13).1)) ≤ (List.length (y13).1)))
                        (
                        Option.bind (F_lodgeref3_ValidDesc N ((List.take (List.length (y13).1) (y13).1), ((List.getD (((y9).2).2).1 0 (([] : List Int), false))).2)) fun y14 =>
                        cond (decide (@Ne Int (y14).1 (0 : Int)))
                          (
                          some ((([] : List Int), (false, ())), y14))
                          (
                          cond (decide (((0 : Nat) + (List.length (y13).1)) ≤ (List.length (y13).1)))
                            (
                            Option.bind (F_lodgeref3_Elems N (List.take (List.length (y13).1) (y13).1)) fun y15 =>
                            Option.bind (F_lodgeref3_Elems N ((List.getD (((y9).2).2).1 0 (([] : List Int), false))).1) fun y16 =>
                            cond (decide (@Ne Int (y15).1 (y16).1))
                              (
                              some ((([] : List Int), (false, ())), ((101 : Int), ())))
                              (
                              cond (decide ((List.length (y13).1) = (List.length (y13).1)))
                                (
                                some (((y13).1, (((List.getD (((y9).2).2).1 0 (([] : List Int), false))).2, ())), ((0 : Int), ())))
                                (
                                none)))
                            (
                            none)))
                        (
                        none))))
                  (
                  none))))))))

abbrev c_lodgeref3_Result (N : Nat) : CallSpec := ⟨46, ps_lodgeref3_Result, rs_lodgeref3_Result, fun x => F_lodgeref3_Result N x.1 x.2.1 x.2.2.1⟩

theorem cs_lodgeref3_Result_ok (S : Nat → Addr) (N : Nat) : CallsOK Go.Proofs.Tryd.prog E S (cs_lodgeref3_Result N) :=
  .cons (F_lodgeref3_ValidDesc_ok S N) (.cons (F_lodgeref_Ints_ok S N) (.cons (F_lodgeref3_ElemResult_ok S N) (.cons (F_lodgeref3_Elems_ok S N) (.cons (F_lodgeref3_Known_ok S N) (.cons (F_lodgeref3_Ins_ok S N) (.cons (F_lodgeref3_Args_ok S N) (.cons (F_lodgeref3_seen_ok S N) (.cons (F_lodgeref3_MatResult_ok S N) (.cons (F_lodgeref3_ConvResult_ok S N) (.cons (F_lodgeref3_PoolResult_ok S N) (.cons (F_lodgeref3_SoftResult_ok S N) (.nil))))))))))))
theorem F_lodgeref3_Result_ok (S : Nat → Addr) (N : Nat) : ∀ x y, (c_lodgeref3_Result N).g x = some y → FCon Go.Proofs.Tryd.prog E S 46 ps_lodgeref3_Result rs_lodgeref3_Result x y := by
  intro x y h
  exact fun_specJ E_ok mixed (cs_lodgeref3_Result_ok S N) (f := 46) (fi := ⟨b_lodgeref3_Result, 141, Go.Proofs.Tryd.f46.results.toList⟩) (by kernel_rfl) (ls := []) (.nil) (js := j_lodgeref3_Result) (by kernel_rfl) (ps := ps_lodgeref3_Result) (rs := rs_lodgeref3_Result) (Eq.trans (b := F_lodgeref3_Result N x.1 x.2.1 x.2.2.1) (by kernel_rfl) h)

/-! lodge/lodgeref3.Zero -/

abbrev ps_lodgeref3_Zero : List Ty := [(.st (.pair (.sl (.int .i64)) .bool))]
abbrev rs_lodgeref3_Zero : List Slot := [.ag [.sl (.int .i64), .d .bool, .sl (.int .i64)]]
abbrev cs_lodgeref3_Zero (N : Nat) : List CallSpec := [c_lodgeref_Desc N, c_lodgeref3_Elems N]
noncomputable abbrev b_lodgeref3_Zero : Code := (Go.Proofs.Tryd.f48.body).getD .skip

def F_lodgeref3_Zero (N : Nat) (d_0 : (List Int × Bool)) : Option ((List Int × (Bool × (List Int × Unit))) × Unit) :=
  Option.bind (F_lodgeref_Desc N d_0) fun y0 =>
  Option.bind (F_lodgeref3_Elems N (d_0).1) fun y1 =>
  cond (decide ((0 : Int) ≤ (y1).1))
    (
    cond (decide ((y1).1 ≤ (y1).1))
      (
      cond (decide (((y1).1 * ((Nat.cast 8 : Int) + (1 : Int))) ≤ (Nat.cast Go.Eng.most : Int)))
        (
        cond (decide ((List.length ((y0).1).1) = (List.length ((y0).1).1)))
          (
          cond (decide ((Int.toNat (y1).1) = (List.length (List.replicate (Int.toNat (y1).1) (0 : Int)))))
            (
            some ((((y0).1).1, ((((y0).1).2).1, ((List.replicate (Int.toNat (y1).1) (0 : Int)), ()))), ()))
            (
            none))
          (
          none))
        (
        none))
      (
      none))
    (
    none)

abbrev c_lodgeref3_Zero (N : Nat) : CallSpec := ⟨48, ps_lodgeref3_Zero, rs_lodgeref3_Zero, fun x => F_lodgeref3_Zero N x.1⟩

theorem cs_lodgeref3_Zero_ok (S : Nat → Addr) (N : Nat) : CallsOK Go.Proofs.Tryd.prog E S (cs_lodgeref3_Zero N) :=
  .cons (F_lodgeref_Desc_ok S N) (.cons (F_lodgeref3_Elems_ok S N) (.nil))
theorem F_lodgeref3_Zero_ok (S : Nat → Addr) (N : Nat) : ∀ x y, (c_lodgeref3_Zero N).g x = some y → FCon Go.Proofs.Tryd.prog E S 48 ps_lodgeref3_Zero rs_lodgeref3_Zero x y := by
  intro x y h
  exact fun_spec E_ok mixed (cs_lodgeref3_Zero_ok S N) (f := 48) (fi := ⟨b_lodgeref3_Zero, 10, Go.Proofs.Tryd.f48.results.toList⟩) (by kernel_rfl) (ls := []) (.nil) (by kernel_rfl) (ps := ps_lodgeref3_Zero) (rs := rs_lodgeref3_Zero) (Eq.trans (b := F_lodgeref3_Zero N x.1) (by kernel_rfl) h)

/-! lodge/lodgeref3.Wide -/

abbrev ps_lodgeref3_Wide : List Ty := [(.int .i64)]
abbrev rs_lodgeref3_Wide : List Slot := [.data (.int .i64)]
abbrev cs_lodgeref3_Wide (N : Nat) : List CallSpec := []
noncomputable abbrev b_lodgeref3_Wide : Code := (Go.Proofs.Tryd.f74.body).getD .skip

def F_lodgeref3_Wide (N : Nat) (n_0 : Int) : Option (Int × Unit) :=
  some ((wi64 (wi32 (wu32 (wu64 n_0)))), ())

abbrev c_lodgeref3_Wide (N : Nat) : CallSpec := ⟨74, ps_lodgeref3_Wide, rs_lodgeref3_Wide, fun x => F_lodgeref3_Wide N x.1⟩

theorem cs_lodgeref3_Wide_ok (S : Nat → Addr) (N : Nat) : CallsOK Go.Proofs.Tryd.prog E S (cs_lodgeref3_Wide N) :=
  .nil
theorem F_lodgeref3_Wide_ok (S : Nat → Addr) (N : Nat) : ∀ x y, (c_lodgeref3_Wide N).g x = some y → FCon Go.Proofs.Tryd.prog E S 74 ps_lodgeref3_Wide rs_lodgeref3_Wide x y := by
  intro x y h
  exact fun_spec E_ok mixed (cs_lodgeref3_Wide_ok S N) (f := 74) (fi := ⟨b_lodgeref3_Wide, 8, Go.Proofs.Tryd.f74.results.toList⟩) (by kernel_rfl) (ls := []) (.nil) (by kernel_rfl) (ps := ps_lodgeref3_Wide) (rs := rs_lodgeref3_Wide) (Eq.trans (b := F_lodgeref3_Wide N x.1) (by kernel_rfl) h)

/-! lodge/lodgeref3.Cut -/

abbrev ps_lodgeref3_Cut : List Ty := [(.int .i64), (.int .i64), (.int .i64)]
abbrev rs_lodgeref3_Cut : List Slot := [.data (.int .i64)]
abbrev cs_lodgeref3_Cut (N : Nat) : List CallSpec := []
noncomputable abbrev b_lodgeref3_Cut : Code := (Go.Proofs.Tryd.f57.body).getD .skip

def F_lodgeref3_Cut (N : Nat) (n_0 : Int) (from_1 : Int) (to_2 : Int) : Option (Int × Unit) :=
  cond (decide (n_0 < from_1))
    (
    some (from_1, ()))
    (
    cond (decide (to_2 < n_0))
      (
      some (to_2, ()))
      (
      some (n_0, ())))

abbrev c_lodgeref3_Cut (N : Nat) : CallSpec := ⟨57, ps_lodgeref3_Cut, rs_lodgeref3_Cut, fun x => F_lodgeref3_Cut N x.1 x.2.1 x.2.2.1⟩

theorem cs_lodgeref3_Cut_ok (S : Nat → Addr) (N : Nat) : CallsOK Go.Proofs.Tryd.prog E S (cs_lodgeref3_Cut N) :=
  .nil
theorem F_lodgeref3_Cut_ok (S : Nat → Addr) (N : Nat) : ∀ x y, (c_lodgeref3_Cut N).g x = some y → FCon Go.Proofs.Tryd.prog E S 57 ps_lodgeref3_Cut rs_lodgeref3_Cut x y := by
  intro x y h
  exact fun_spec E_ok mixed (cs_lodgeref3_Cut_ok S N) (f := 57) (fi := ⟨b_lodgeref3_Cut, 16, Go.Proofs.Tryd.f57.results.toList⟩) (by kernel_rfl) (ls := []) (.nil) (by kernel_rfl) (ps := ps_lodgeref3_Cut) (rs := rs_lodgeref3_Cut) (Eq.trans (b := F_lodgeref3_Cut N x.1 x.2.1 x.2.2.1) (by kernel_rfl) h)

/-! lodge/lodgeref3.kept -/

abbrev ps_lodgeref3_kept : List Ty := [(.int .i64), .bool]
abbrev rs_lodgeref3_kept : List Slot := [.data (.int .i64)]
abbrev cs_lodgeref3_kept (N : Nat) : List CallSpec := [c_lodgeref3_Wide N, c_lodgeref3_Cut N]
noncomputable abbrev b_lodgeref3_kept : Code := (Go.Proofs.Tryd.f56.body).getD .skip

def F_lodgeref3_kept (N : Nat) (n_0 : Int) (wide_1 : Bool) : Option (Int × Unit) :=
  cond wide_1
    (
    Option.bind (F_lodgeref3_Wide N n_0) fun y0 =>
    some y0)
    (
    Option.bind (F_lodgeref3_Cut N n_0 (-(128 : Int)) (127 : Int)) fun y1 =>
    some y1)

abbrev c_lodgeref3_kept (N : Nat) : CallSpec := ⟨56, ps_lodgeref3_kept, rs_lodgeref3_kept, fun x => F_lodgeref3_kept N x.1 x.2.1⟩

theorem cs_lodgeref3_kept_ok (S : Nat → Addr) (N : Nat) : CallsOK Go.Proofs.Tryd.prog E S (cs_lodgeref3_kept N) :=
  .cons (F_lodgeref3_Wide_ok S N) (.cons (F_lodgeref3_Cut_ok S N) (.nil))
theorem F_lodgeref3_kept_ok (S : Nat → Addr) (N : Nat) : ∀ x y, (c_lodgeref3_kept N).g x = some y → FCon Go.Proofs.Tryd.prog E S 56 ps_lodgeref3_kept rs_lodgeref3_kept x y := by
  intro x y h
  exact fun_spec E_ok mixed (cs_lodgeref3_kept_ok S N) (f := 56) (fi := ⟨b_lodgeref3_kept, 10, Go.Proofs.Tryd.f56.results.toList⟩) (by kernel_rfl) (ls := []) (.nil) (by kernel_rfl) (ps := ps_lodgeref3_kept) (rs := rs_lodgeref3_kept) (Eq.trans (b := F_lodgeref3_kept N x.1 x.2.1) (by kernel_rfl) h)

/-! lodge/lodgeref3.Requant -/

abbrev ps_lodgeref3_Requant : List Ty := [(.int .i64), (.int .i64), (.int .i64), (.int .i64)]
abbrev rs_lodgeref3_Requant : List Slot := [.data (.int .i64)]
abbrev cs_lodgeref3_Requant (N : Nat) : List CallSpec := [c_lodgeref3_Cut N]
noncomputable abbrev b_lodgeref3_Requant : Code := (Go.Proofs.Tryd.f58.body).getD .skip

def F_lodgeref3_Requant (N : Nat) (x_0 : Int) (mult_1 : Int) (shift_2 : Int) (zero_3 : Int) : Option (Int × Unit) :=
  Option.bind (F_lodgeref3_Cut N x_0 (-(2147483648 : Int)) (2147483647 : Int)) fun y0 =>
  Option.bind (F_lodgeref3_Cut N mult_1 (0 : Int) (2147483647 : Int)) fun y1 =>
  Option.bind (F_lodgeref3_Cut N shift_2 (0 : Int) (62 : Int)) fun y2 =>
  cond (decide ((0 : Int) < (y2).1))
    (
    cond (decide ((0 : Int) ≤ (wu64 (wi64 ((y2).1 - (1 : Int))))))
      (
      cond (decide ((0 : Int) ≤ (wu64 (y2).1)))
        (
        Option.bind (F_lodgeref3_Cut N (Go.Eng.shrI Go.IntKind.i64 (wi64 ((wi64 ((y0).1 * (y1).1)) + (Go.Eng.shlI Go.IntKind.i64 (1 : Int) (wu64 (wi64 ((y2).1 - (1 : Int))))))) (wu64 (y2).1)) (-(1099511627776 : Int)) (1099511627776 : Int)) fun y3 =>
        Option.bind (F_lodgeref3_Cut N zero_3 (-(128 : Int)) (127 : Int)) fun y4 =>
        Option.bind (F_lodgeref3_Cut N (wi64 ((y3).1 + (y4).1)) (-(128 : Int)) (127 : Int)) fun y5 =>
        some y5)
        (
        none))
      (
      none))
    (
    Option.bind (F_lodgeref3_Cut N (wi64 ((y0).1 * (y1).1)) (-(1099511627776 : Int)) (1099511627776 : Int)) fun y6 =>
    Option.bind (F_lodgeref3_Cut N zero_3 (-(128 : Int)) (127 : Int)) fun y7 =>
    Option.bind (F_lodgeref3_Cut N (wi64 ((y6).1 + (y7).1)) (-(128 : Int)) (127 : Int)) fun y8 =>
    some y8)

abbrev c_lodgeref3_Requant (N : Nat) : CallSpec := ⟨58, ps_lodgeref3_Requant, rs_lodgeref3_Requant, fun x => F_lodgeref3_Requant N x.1 x.2.1 x.2.2.1 x.2.2.2.1⟩

theorem cs_lodgeref3_Requant_ok (S : Nat → Addr) (N : Nat) : CallsOK Go.Proofs.Tryd.prog E S (cs_lodgeref3_Requant N) :=
  .cons (F_lodgeref3_Cut_ok S N) (.nil)
theorem F_lodgeref3_Requant_ok (S : Nat → Addr) (N : Nat) : ∀ x y, (c_lodgeref3_Requant N).g x = some y → FCon Go.Proofs.Tryd.prog E S 58 ps_lodgeref3_Requant rs_lodgeref3_Requant x y := by
  intro x y h
  exact fun_spec E_ok mixed (cs_lodgeref3_Requant_ok S N) (f := 58) (fi := ⟨b_lodgeref3_Requant, 36, Go.Proofs.Tryd.f58.results.toList⟩) (by kernel_rfl) (ls := []) (.nil) (by kernel_rfl) (ps := ps_lodgeref3_Requant) (rs := rs_lodgeref3_Requant) (Eq.trans (b := F_lodgeref3_Requant N x.1 x.2.1 x.2.2.1 x.2.2.2.1) (by kernel_rfl) h)

/-! lodge/lodgeref3.Value -/

abbrev ps_lodgeref3_Value : List Ty := [(.int .i64), .bool, (.int .i64), (.int .i64), (.sl (.int .i64))]
abbrev rs_lodgeref3_Value : List Slot := [.data (.int .i64)]
abbrev cs_lodgeref3_Value (N : Nat) : List CallSpec := [c_lodgeref3_Cut N, c_lodgeref3_kept N, c_lodgeref3_Requant N]
noncomputable abbrev b_lodgeref3_Value : Code := (Go.Proofs.Tryd.f26.body).getD .skip

def F_lodgeref3_Value (N : Nat) (op_0 : Int) (wide_1 : Bool) (x_2 : Int) (y_3 : Int) (args_4 : List Int) : Option (Int × Unit) :=
  cond (decide (op_0 = (4 : Int)))
    (
    Option.bind (F_lodgeref3_kept N (wi64 (x_2 + y_3)) wide_1) fun y0 =>
    some y0)
    (
    cond (decide (op_0 = (5 : Int)))
      (
      Option.bind (F_lodgeref3_kept N (wi64 (x_2 - y_3)) wide_1) fun y1 =>
      some y1)
      (
      cond (decide (op_0 = (6 : Int)))
        (
        Option.bind (F_lodgeref3_kept N (wi64 (x_2 * y_3)) wide_1) fun y2 =>
        some y2)
        (
        cond (decide (op_0 = (7 : Int)))
          (
          some ((Go.Eng.imax x_2 y_3), ()))
          (
          cond (decide (op_0 = (8 : Int)))
            (
            some ((Go.Eng.imax x_2 (0 : Int)), ()))
            (
            cond (decide (op_0 = (9 : Int)))
              (
              cond (decide (0 < (List.length args_4)))
                (
                cond (decide (1 < (List.length args_4)))
                  (
                  Option.bind (F_lodgeref3_Cut N x_2 (List.getD args_4 0 (0 : Int)) (List.getD args_4 1 (0 : Int))) fun y3 =>
                  some y3)
                  (
                  none))
                (
                none))
              (
              cond (decide (op_0 = (10 : Int)))
                (
                cond (decide (0 < (List.length args_4)))
                  (
                  cond (decide (1 < (List.length args_4)))
                    (
                    cond (decide (2 < (List.length args_4)))
                      (
                      Option.bind (F_lodgeref3_Requant N x_2 (List.getD args_4 0 (0 : Int)) (List.getD args_4 1 (0 : Int)) (List.getD args_4 2 (0 : Int))) fun y4 =>
                      some y4)
                      (
                      none))
                    (
                    none))
                  (
                  none))
                (
                cond (decide (op_0 = (11 : Int)))
                  (
                  cond (decide (0 < (List.length args_4)))
                    (
                    some ((wi64 (x_2 - (List.getD args_4 0 (0 : Int)))), ()))
                    (
                    none))
                  (
                  some ((0 : Int), ())))))))))

abbrev c_lodgeref3_Value (N : Nat) : CallSpec := ⟨26, ps_lodgeref3_Value, rs_lodgeref3_Value, fun x => F_lodgeref3_Value N x.1 x.2.1 x.2.2.1 x.2.2.2.1 x.2.2.2.2.1⟩

theorem cs_lodgeref3_Value_ok (S : Nat → Addr) (N : Nat) : CallsOK Go.Proofs.Tryd.prog E S (cs_lodgeref3_Value N) :=
  .cons (F_lodgeref3_Cut_ok S N) (.cons (F_lodgeref3_kept_ok S N) (.cons (F_lodgeref3_Requant_ok S N) (.nil)))
theorem F_lodgeref3_Value_ok (S : Nat → Addr) (N : Nat) : ∀ x y, (c_lodgeref3_Value N).g x = some y → FCon Go.Proofs.Tryd.prog E S 26 ps_lodgeref3_Value rs_lodgeref3_Value x y := by
  intro x y h
  exact fun_spec E_ok mixed (cs_lodgeref3_Value_ok S N) (f := 26) (fi := ⟨b_lodgeref3_Value, 72, Go.Proofs.Tryd.f26.results.toList⟩) (by kernel_rfl) (ls := []) (.nil) (by kernel_rfl) (ps := ps_lodgeref3_Value) (rs := rs_lodgeref3_Value) (Eq.trans (b := F_lodgeref3_Value N x.1 x.2.1 x.2.2.1 x.2.2.2.1 x.2.2.2.2.1) (by kernel_rfl) h)


end Go.Proofs.YtmbcbocnncfpbaaDoor.Lg
