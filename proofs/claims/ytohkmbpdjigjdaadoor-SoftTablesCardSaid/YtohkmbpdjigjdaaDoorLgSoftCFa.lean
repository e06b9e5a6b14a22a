/-
  The functions of the seat's program, as plain functions.
-/
import Derived.Test.YtohkmbpdjigjdaaDoorLgSoftCE
namespace Go.Proofs.YtohkmbpdjigjdaaDoor.Lg
open Go Go.Eng Go.Proofs
set_option maxRecDepth 100000

/-! math.Signbit -/

abbrev ps_math_Signbit : List Ty := [.flt]
abbrev rs_math_Signbit : List Slot := [.data .bool]
abbrev cs_math_Signbit (N : Nat) : List CallSpec := []
noncomputable abbrev b_math_Signbit : Code := (Go.Proofs.Tryd.f59.body).getD .skip

def F_math_Signbit (N : Nat) (x_0 : Nat) : Option (Bool × Unit) :=
  some ((decide ((wi64 (Nat.cast x_0 : Int)) < (0 : Int))), ())

abbrev c_math_Signbit (N : Nat) : CallSpec := ⟨59, ps_math_Signbit, rs_math_Signbit, fun x => F_math_Signbit N x.1⟩

theorem cs_math_Signbit_ok (S : Nat → Addr) (N : Nat) : CallsOK Go.Proofs.Tryd.prog E S (cs_math_Signbit N) :=
  .nil
theorem F_math_Signbit_ok (S : Nat → Addr) (N : Nat) : ∀ x y, (c_math_Signbit N).g x = some y → FCon Go.Proofs.Tryd.prog E S 59 ps_math_Signbit rs_math_Signbit x y := by
  intro x y h
  exact fun_spec E_ok mixed (cs_math_Signbit_ok S N) (f := 59) (fi := ⟨b_math_Signbit, 7, Go.Proofs.Tryd.f59.results.toList⟩) (by kernel_rfl) (ls := []) (.nil) (by kernel_rfl) (ps := ps_math_Signbit) (rs := rs_math_Signbit) (Eq.trans (b := F_math_Signbit N x.1) (by kernel_rfl) h)

/-! math.IsNaN -/

abbrev ps_math_IsNaN : List Ty := [.flt]
abbrev rs_math_IsNaN : List Slot := [.data .bool]
abbrev cs_math_IsNaN (N : Nat) : List CallSpec := []
noncomputable abbrev b_math_IsNaN : Code := (Go.Proofs.Tryd.f60.body).getD .skip

def F_math_IsNaN (N : Nat) (f_0 : Nat) : Option (Bool × Unit) :=
  some ((@bne (Option Ordering) (@Option.instBEq Ordering (@instBEqOfDecidableEq Ordering instDecidableEqOrdering)) (Ieee.Format.order (Go.FloatKind.format Go.FloatKind.f64) f_0 f_0) (@Option.some Ordering Ordering.eq)), ())

abbrev c_math_IsNaN (N : Nat) : CallSpec := ⟨60, ps_math_IsNaN, rs_math_IsNaN, fun x => F_math_IsNaN N x.1⟩

theorem cs_math_IsNaN_ok (S : Nat → Addr) (N : Nat) : CallsOK Go.Proofs.Tryd.prog E S (cs_math_IsNaN N) :=
  .nil
theorem F_math_IsNaN_ok (S : Nat → Addr) (N : Nat) : ∀ x y, (c_math_IsNaN N).g x = some y → FCon Go.Proofs.Tryd.prog E S 60 ps_math_IsNaN rs_math_IsNaN x y := by
  intro x y h
  exact fun_spec E_ok mixed (cs_math_IsNaN_ok S N) (f := 60) (fi := ⟨b_math_IsNaN, 6, Go.Proofs.Tryd.f60.results.toList⟩) (by kernel_rfl) (ls := []) (.nil) (by kernel_rfl) (ps := ps_math_IsNaN) (rs := rs_math_IsNaN) (Eq.trans (b := F_math_IsNaN N x.1) (by kernel_rfl) h)

/-! math.Abs -/

abbrev ps_math_Abs : List Ty := [.flt]
abbrev rs_math_Abs : List Slot := [.data .flt]
abbrev cs_math_Abs (N : Nat) : List CallSpec := []
noncomputable abbrev b_math_Abs : Code := (Go.Proofs.Tryd.f62.body).getD .skip

def F_math_Abs (N : Nat) (x_0 : Nat) : Option (Nat × Unit) :=
  some ((Int.toNat (Go.Eng.bitsI Go.BinOp.andNot Go.IntKind.u64 (Nat.cast x_0 : Int) (9223372036854775808 : Int))), ())

abbrev c_math_Abs (N : Nat) : CallSpec := ⟨62, ps_math_Abs, rs_math_Abs, fun x => F_math_Abs N x.1⟩

theorem cs_math_Abs_ok (S : Nat → Addr) (N : Nat) : CallsOK Go.Proofs.Tryd.prog E S (cs_math_Abs N) :=
  .nil
theorem F_math_Abs_ok (S : Nat → Addr) (N : Nat) : ∀ x y, (c_math_Abs N).g x = some y → FCon Go.Proofs.Tryd.prog E S 62 ps_math_Abs rs_math_Abs x y := by
  intro x y h
  exact fun_spec E_ok mixed (cs_math_Abs_ok S N) (f := 62) (fi := ⟨b_math_Abs, 7, Go.Proofs.Tryd.f62.results.toList⟩) (by kernel_rfl) (ls := []) (.nil) (by kernel_rfl) (ps := ps_math_Abs) (rs := rs_math_Abs) (Eq.trans (b := F_math_Abs N x.1) (by kernel_rfl) h)

/-! math.IsInf -/

abbrev ps_math_IsInf : List Ty := [.flt, (.int .i64)]
abbrev rs_math_IsInf : List Slot := [.data .bool]
abbrev cs_math_IsInf (N : Nat) : List CallSpec := [c_math_Abs N]
noncomputable abbrev b_math_IsInf : Code := (Go.Proofs.Tryd.f61.body).getD .skip

def F_math_IsInf (N : Nat) (f_0 : Nat) (sign_1 : Int) : Option (Bool × Unit) :=
  cond (decide (sign_1 = (0 : Int)))
    (
    Option.bind (F_math_Abs N f_0) fun y0 =>
    some (((Ieee.Format.order (Go.FloatKind.format Go.FloatKind.f64) (y0).1 (9218868437227405311 : Nat)) == (@Option.some Ordering Ordering.gt)), ()))
    (
    cond (decide (sign_1 < (0 : Int)))
      (
      none)
      (
      some (((Ieee.Format.order (Go.FloatKind.format Go.FloatKind.f64) f_0 (9218868437227405311 : Nat)) == (@Option.some Ordering Ordering.gt)), ())))

abbrev c_math_IsInf (N : Nat) : CallSpec := ⟨61, ps_math_IsInf, rs_math_IsInf, fun x => F_math_IsInf N x.1 x.2.1⟩

theorem cs_math_IsInf_ok (S : Nat → Addr) (N : Nat) : CallsOK Go.Proofs.Tryd.prog E S (cs_math_IsInf N) :=
  .cons (F_math_Abs_ok S N) (.nil)
theorem F_math_IsInf_ok (S : Nat → Addr) (N : Nat) : ∀ x y, (c_math_IsInf N).g x = some y → FCon Go.Proofs.Tryd.prog E S 61 ps_math_IsInf rs_math_IsInf x y := by
  intro x y h
  exact fun_spec E_ok mixed (cs_math_IsInf_ok S N) (f := 61) (fi := ⟨b_math_IsInf, 15, Go.Proofs.Tryd.f61.results.toList⟩) (by kernel_rfl) (ls := []) (.nil) (by kernel_rfl) (ps := ps_math_IsInf) (rs := rs_math_IsInf) (Eq.trans (b := F_math_IsInf N x.1 x.2.1) (by kernel_rfl) h)

/-! lodge/flt.Kind -/

abbrev ps_flt_Kind : List Ty := [.flt]
abbrev rs_flt_Kind : List Slot := [.data (.int .i64), .data .bool]
abbrev cs_flt_Kind (N : Nat) : List CallSpec := [c_math_Signbit N, c_math_IsNaN N, c_math_Abs N, c_math_IsInf N]
noncomputable abbrev b_flt_Kind : Code := (Go.Proofs.Tryd.f30.body).getD .skip

def F_flt_Kind (N : Nat) (x_0 : Nat) : Option (Int × (Bool × Unit)) :=
  Option.bind (F_math_Signbit N x_0) fun y0 =>
  Option.bind (F_math_IsNaN N x_0) fun y1 =>
  cond (y1).1
    (
    some ((1 : Int), (false, ())))
    (
    Option.bind (F_math_IsInf N x_0 (0 : Int)) fun y2 =>
    cond (y2).1
      (
      some ((2 : Int), y0))
      (
      cond ((Ieee.Format.order (Go.FloatKind.format Go.FloatKind.f64) x_0 (0 : Nat)) == (@Option.some Ordering Ordering.eq))
        (
        some ((3 : Int), y0))
        (
        Option.bind (F_math_Abs N x_0) fun y3 =>
        cond ((Ieee.Format.order (Go.FloatKind.format Go.FloatKind.f64) (y3).1 (4503599627370496 : Nat)) == (@Option.some Ordering Ordering.lt))
          (
          some ((4 : Int), y0))
          (
          some ((5 : Int), y0)))))

abbrev c_flt_Kind (N : Nat) : CallSpec := ⟨30, ps_flt_Kind, rs_flt_Kind, fun x => F_flt_Kind N x.1⟩

theorem cs_flt_Kind_ok (S : Nat → Addr) (N : Nat) : CallsOK Go.Proofs.Tryd.prog E S (cs_flt_Kind N) :=
  .cons (F_math_Signbit_ok S N) (.cons (F_math_IsNaN_ok S N) (.cons (F_math_Abs_ok S N) (.cons (F_math_IsInf_ok S N) (.nil))))
theorem F_flt_Kind_ok (S : Nat → Addr) (N : Nat) : ∀ x y, (c_flt_Kind N).g x = some y → FCon Go.Proofs.Tryd.prog E S 30 ps_flt_Kind rs_flt_Kind x y := by
  intro x y h
  exact fun_spec E_ok mixed (cs_flt_Kind_ok S N) (f := 30) (fi := ⟨b_flt_Kind, 24, Go.Proofs.Tryd.f30.results.toList⟩) (by kernel_rfl) (ls := []) (.nil) (by kernel_rfl) (ps := ps_flt_Kind) (rs := rs_flt_Kind) (Eq.trans (b := F_flt_Kind N x.1) (by kernel_rfl) h)

/-! lodge/flt.Round -/

abbrev ps_flt_Round : List Ty := [.flt]
abbrev rs_flt_Round : List Slot := [.data .flt]
abbrev cs_flt_Round (N : Nat) : List CallSpec := []
noncomputable abbrev b_flt_Round : Code := (Go.Proofs.Tryd.f63.body).getD .skip

def F_flt_Round (N : Nat) (x_0 : Nat) : Option (Nat × Unit) :=
  cond (Go.Eng.evenOK x_0)
    (
    some ((Go.Eng.evenF x_0), ()))
    (
    none)

abbrev c_flt_Round (N : Nat) : CallSpec := ⟨63, ps_flt_Round, rs_flt_Round, fun x => F_flt_Round N x.1⟩

theorem cs_flt_Round_ok (S : Nat → Addr) (N : Nat) : CallsOK Go.Proofs.Tryd.prog E S (cs_flt_Round N) :=
  .nil
theorem F_flt_Round_ok (S : Nat → Addr) (N : Nat) : ∀ x y, (c_flt_Round N).g x = some y → FCon Go.Proofs.Tryd.prog E S 63 ps_flt_Round rs_flt_Round x y := by
  intro x y h
  exact fun_spec E_ok mixed (cs_flt_Round_ok S N) (f := 63) (fi := ⟨b_flt_Round, 5, Go.Proofs.Tryd.f63.results.toList⟩) (by kernel_rfl) (ls := []) (.nil) (by kernel_rfl) (ps := ps_flt_Round) (rs := rs_flt_Round) (Eq.trans (b := F_flt_Round N x.1) (by kernel_rfl) h)

/-! lodge/flt.Whole -/

abbrev ps_flt_Whole : List Ty := [.flt, (.int .i64), (.int .i64)]
abbrev rs_flt_Whole : List Slot := [.data (.int .i64)]
abbrev cs_flt_Whole (N : Nat) : List CallSpec := [c_math_IsNaN N, c_flt_Round N]
noncomputable abbrev b_flt_Whole : Code := (Go.Proofs.Tryd.f31.body).getD .skip

def F_flt_Whole (N : Nat) (x_0 : Nat) (from_1 : Int) (to_2 : Int) : Option (Int × Unit) :=
  Option.bind (F_flt_Round N x_0) fun y0 =>
  Option.bind (F_math_IsNaN N (y0).1) fun y1 =>
  cond (y1).1
    (
    some ((Go.Eng.imax from_1 (Go.Eng.imin (0 : Int) to_2)), ()))
    (
    cond ((Ieee.Format.order (Go.FloatKind.format Go.FloatKind.f64) (y0).1 (14114281232179134464 : Nat)) == (@Option.some Ordering Ordering.lt))
      (
      some ((Go.Eng.imax from_1 (Go.Eng.imin (-(9223372036854775808 : Int)) to_2)), ()))
      (
      cond (Bool.or ((Ieee.Format.order (Go.FloatKind.format Go.FloatKind.f64) (y0).1 (4890909195324358656 : Nat)) == (@Option.some Ordering Ordering.gt)) ((Ieee.Format.order (Go.FloatKind.format Go.FloatKind.f64) (y0).1 (4890909195324358656 : Nat)) == (@Option.some Ordering Ordering.eq)))
        (
        some ((Go.Eng.imax from_1 (Go.Eng.imin (9223372036854775807 : Int) to_2)), ()))
        (
        cond (Go.Eng.ftoiOK Go.IntKind.i64 (y0).1)
          (
          some ((Go.Eng.imax from_1 (Go.Eng.imin (Go.Eng.ftoi (y0).1) to_2)), ()))
          (
          none))))

abbrev c_flt_Whole (N : Nat) : CallSpec := ⟨31, ps_flt_Whole, rs_flt_Whole, fun x => F_flt_Whole N x.1 x.2.1 x.2.2.1⟩

theorem cs_flt_Whole_ok (S : Nat → Addr) (N : Nat) : CallsOK Go.Proofs.Tryd.prog E S (cs_flt_Whole N) :=
  .cons (F_math_IsNaN_ok S N) (.cons (F_flt_Round_ok S N) (.nil))
theorem F_flt_Whole_ok (S : Nat → Addr) (N : Nat) : ∀ x y, (c_flt_Whole N).g x = some y → FCon Go.Proofs.Tryd.prog E S 31 ps_flt_Whole rs_flt_Whole x y := by
  intro x y h
  exact fun_spec E_ok mixed (cs_flt_Whole_ok S N) (f := 31) (fi := ⟨b_flt_Whole, 27, Go.Proofs.Tryd.f31.results.toList⟩) (by kernel_rfl) (ls := []) (.nil) (by kernel_rfl) (ps := ps_flt_Whole) (rs := rs_flt_Whole) (Eq.trans (b := F_flt_Whole N x.1 x.2.1 x.2.2.1) (by kernel_rfl) h)

/-! lodge/soft.Table -/

abbrev ps_soft_Table : List Ty := [.flt]
abbrev rs_soft_Table : List Slot := [.ag [.sl (.int .i64), .d .bool, .sl (.int .i64)], .data .err]
abbrev cs_soft_Table (N : Nat) : List CallSpec := [c_flt_Kind N, c_flt_Whole N]
noncomputable abbrev b_soft_Table : Code := (Go.Proofs.Tryd.f10.body).getD .skip

abbrev h_soft_Table_0 : List Slot := [.data .flt, .dead, .box [.sl (.int .i64), .d .bool, .sl (.int .i64)], .dead, .dead, .dead, .box [.sl (.int .i64), .d .bool, .sl (.int .i64)], .data (.int .i64), .dead, .dead, .dead, .dead, .dead, .dead, .dead, .dead, .dead, .dead, .dead, .dead, .dead, .dead, .dead, .dead, .dead, .dead, .dead, .dead, .dead, .dead, .dead, .dead, .data (.int .i64), .dead, .dead, .dead, .dead, .dead, .dead, .dead, .dead, .dead, .dead, .dead, .dead, .dead, .dead]
abbrev e_soft_Table_0 : List (AX × List Slot) := [(AX.exit 0, [.dead, .dead, .box [.sl (.int .i64), .d .bool, .sl (.int .i64)], .dead, .dead, .dead, .box [.sl (.int .i64), .d .bool, .sl (.int .i64)], .dead, .dead, .dead, .dead, .dead, .dead, .dead, .dead, .dead, .dead, .dead, .dead, .dead, .dead, .dead, .dead, .dead, .dead, .dead, .dead, .dead, .dead, .dead, .dead, .dead, .dead, .dead, .dead, .dead, .dead, .dead, .dead, .dead, .dead, .dead, .dead, .dead, .dead, .dead, .dead])]
def g_soft_Table_0 (N : Nat) : Nat → Nat → (List Int × (Bool × (List Int × Unit))) → (List Int × (Bool × (List Int × Unit))) → Int → Int → Option ((List Int × (Bool × (List Int × Unit))) × ((List Int × (Bool × (List Int × Unit))) × Unit))
  | 0, _, _, _, _, _ => none
  | n + 1, by_0, t_2, out_6, v_7, t_32 =>
    cond (decide (t_32 < (256 : Int)))
      (
      cond (decide (((0 : Nat) + (List.length (((out_6).2).2).1)) = (List.length (((out_6).2).2).1)))
        (
        cond (decide ((((List.length (((out_6).2).2).1) + 1) * (8 + (1 : Nat))) ≤ Go.Eng.most))
          (
          cond (@Option.isSome Nat (Go.Eng.fbin Go.BinOp.mul (Go.FloatKind.nearest Go.FloatKind.f64 v_7) by_0))
            (
            Option.bind (F_flt_Whole N (@Option.getD Nat (Go.Eng.fbin Go.BinOp.mul (Go.FloatKind.nearest Go.FloatKind.f64 v_7) by_0) (0 : Nat)) (0 : Int) (1048576 : Int)) fun y2 =>
            cond (decide ((List.length (t_2).1) = (List.length (t_2).1)))
              (
              cond (decide ((List.length (((t_2).2).2).1) = (List.length (((t_2).2).2).1)))
                (
                cond (decide ((List.length (out_6).1) = (List.length (out_6).1)))
                  (
                  cond (decide (((List.length (((out_6).2).2).1) + 1) = (List.length ((List.take (List.length (((out_6).2).2).1) (((out_6).2).2).1) ++ (v_7 :: ([] : List Int))))))
                    (
                    (g_soft_Table_0 N n by_0 t_2 ((out_6).1, (((out_6).2).1, (((List.take (List.length (((out_6).2).2).1) (((out_6).2).2).1) ++ (v_7 :: ([] : List Int))), ()))) (y2).1 (wi64 (t_32 + (1 : Int)))))
                    (
                    none))
                  (
                  none))
                (
                none))
              (
              none))
            (
            none))
          (
          none))
        (
        none))
      (
      cond (decide ((List.length (t_2).1) = (List.length (t_2).1)))
        (
        cond (decide ((List.length (((t_2).2).2).1) = (List.length (((t_2).2).2).1)))
          (
          cond (decide ((List.length (out_6).1) = (List.length (out_6).1)))
            (
            cond (decide ((List.length (((out_6).2).2).1) = (List.length (((out_6).2).2).1)))
              (
              some (t_2, (out_6, ())))
              (
              none))
            (
            none))
          (
          none))
        (
        none))

def F_soft_Table (N : Nat) (by_0 : Nat) : Option ((List Int × (Bool × (List Int × Unit))) × (Er × Unit)) :=
  Option.bind (F_flt_Kind N by_0) fun y0 =>
  cond (decide ((y0).1 = (1 : Int)))
    (
    some ((([] : List Int), (false, (([] : List Int), ()))), ((Go.Eng.Er.s ErrRange), ())))
    (
    cond (decide ((y0).1 = (2 : Int)))
      (
      some ((([] : List Int), (false, (([] : List Int), ()))), ((Go.Eng.Er.s ErrRange), ())))
      (
      cond (Bool.or ((Ieee.Format.order (Go.FloatKind.format Go.FloatKind.f64) by_0 (0 : Nat)) == (@Option.some Ordering Ordering.lt)) ((Ieee.Format.order (Go.FloatKind.format Go.FloatKind.f64) by_0 (0 : Nat)) == (@Option.some Ordering Ordering.eq)))
        (
        some ((([] : List Int), (false, (([] : List Int), ()))), ((Go.Eng.Er.s ErrRange), ())))
        (
        cond (Bool.or ((Ieee.Format.order (Go.FloatKind.format Go.FloatKind.f64) by_0 (4607182418800017408 : Nat)) == (@Option.some Ordering Ordering.gt)) ((Ieee.Format.order (Go.FloatKind.format Go.FloatKind.f64) by_0 (4607182418800017408 : Nat)) == (@Option.some Ordering Ordering.eq)))
          (
          some ((([] : List Int), (false, (([] : List Int), ()))), ((Go.Eng.Er.s ErrRange), ())))
          (
          Option.bind (g_soft_Table_0 N N by_0 (([] : List Int), (false, (([] : List Int), ()))) (((256 : Int) :: ([] : List Int)), (true, (([] : List Int), ()))) (1048576 : Int) (0 : Int)) fun y1 =>
          cond (decide ((List.length (((y1).2).1).1) = (List.length (((y1).2).1).1)))
            (
            cond (decide ((List.length (((((y1).2).1).2).2).1) = (List.length (((((y1).2).1).2).2).1)))
              (
              some (((y1).2).1, (Go.Eng.Er.nil, ())))
              (
              none))
            (
            none)))))

abbrev c_soft_Table (N : Nat) : CallSpec := ⟨10, ps_soft_Table, rs_soft_Table, fun x => F_soft_Table N x.1⟩
abbrev l_soft_Table_0 (N : Nat) : LoopSpec := ⟨0, h_soft_Table_0, e_soft_Table_0, fun x => g_soft_Table_0 N N x.1 x.2.1 x.2.2.1 x.2.2.2.1 x.2.2.2.2.1⟩

theorem cs_soft_Table_ok (S : Nat → Addr) (N : Nat) : CallsOK Go.Proofs.Tryd.prog E S (cs_soft_Table N) :=
  .cons (F_flt_Kind_ok S N) (.cons (F_flt_Whole_ok S N) (.nil))
noncomputable abbrev b_soft_Table_0 : Code := (loopsOf b_soft_Table).getD 0 .skip
theorem g_soft_Table_0_ok (S : Nat → Addr) (N : Nat) : ∀ n x y, (fun (x : Val (slotsTy h_soft_Table_0)) => g_soft_Table_0 N n x.1 x.2.1 x.2.2.1 x.2.2.2.1 x.2.2.2.2.1) x = some y → LoopCon Go.Proofs.Tryd.prog E S b_soft_Table_0 (encSlots h_soft_Table_0 x) (encEx e_soft_Table_0 y).1 (encEx e_soft_Table_0 y).2 :=
  loop_spec E_ok mixed (cs_soft_Table_ok S N) (all := loopsOf b_soft_Table) (ls := []) (.nil) (i := 0) (by kernel_rfl) (inner_of (by kernel_rfl)) (head := h_soft_Table_0) (ex := e_soft_Table_0) (fun n (x : Val (slotsTy h_soft_Table_0)) => g_soft_Table_0 N n x.1 x.2.1 x.2.2.1 x.2.2.2.1 x.2.2.2.2.1) (fun _ => rfl) (fun n x => by kernel_rfl)
theorem F_soft_Table_ok (S : Nat → Addr) (N : Nat) : ∀ x y, (c_soft_Table N).g x = some y → FCon Go.Proofs.Tryd.prog E S 10 ps_soft_Table rs_soft_Table x y := by
  intro x y h
  exact fun_spec E_ok mixed (cs_soft_Table_ok S N) (f := 10) (fi := ⟨b_soft_Table, 47, Go.Proofs.Tryd.f10.results.toList⟩) (by kernel_rfl) (ls := [l_soft_Table_0 N]) (.cons (by kernel_rfl) (g_soft_Table_0_ok S N N) (.nil)) (by kernel_rfl) (ps := ps_soft_Table) (rs := rs_soft_Table) (Eq.trans (b := F_soft_Table N x.1) (by kernel_rfl) h)

/-! lodge/shape.Valid -/

abbrev ps_shape_Valid : List Ty := [(.st (.pair (.sl (.int .i64)) .bool))]
abbrev rs_shape_Valid : List Slot := [.data .err]
abbrev cs_shape_Valid (N : Nat) : List CallSpec := []
noncomputable abbrev b_shape_Valid : Code := (Go.Proofs.Tryd.f51.body).getD .skip

abbrev h_shape_Valid_0 : List Slot := [.dead, .box [.d (.st (.pair (.sl (.int .i64)) .bool))], .dead, .data (.int .i64), .dead, .dead, .dead, .dead, .dead, .dead, .dead, .dead, .dead, .dead, .data (.sl (.int .i64)), .data (.int .i64), .data (.int .i64), .dead, .dead, .dead, .dead, .dead, .dead, .dead, .dead, .dead, .dead, .dead, .dead, .dead, .dead, .dead, .dead, .dead, .dead, .dead, .dead, .dead, .dead, .dead, .dead, .dead]
abbrev e_shape_Valid_0 : List (AX × List Slot) := [(AX.exit 0, [.dead, .box [.d (.st (.pair (.sl (.int .i64)) .bool))], .dead, .data (.int .i64), .dead, .dead, .dead, .dead, .dead, .dead, .dead, .dead, .dead, .dead, .dead, .dead, .dead, .dead, .dead, .dead, .dead, .dead, .dead, .dead, .dead, .dead, .dead, .dead, .dead, .dead, .dead, .dead, .dead, .dead, .dead, .dead, .dead, .dead, .dead, .dead, .dead, .dead]), (AX.ret, [.dead, .dead, .data .err, .dead, .dead, .dead, .dead, .dead, .dead, .dead, .dead, .dead, .dead, .dead, .dead, .dead, .dead, .dead, .dead, .dead, .dead, .dead, .dead, .dead, .dead, .dead, .dead, .dead, .dead, .dead, .dead, .dead, .dead, .dead, .dead, .dead, .dead, .dead, .dead, .dead, .dead, .dead])]
def g_shape_Valid_0 (N : Nat) : Nat → ((List Int × Bool) × Unit) → Int → List Int → Int → Int → Option (Sum (((List Int × Bool) × Unit) × (Int × Unit)) (Er × Unit))
  | 0, _, _, _, _, _ => none
  | n + 1, d_1, n_3, t_14, t_15, t_16 =>
    cond (decide (t_16 < t_15))
      (
      cond (decide ((0 : Int) ≤ t_16))
        (
        cond (decide ((Int.toNat t_16) < (List.length t_14)))
          (
          cond (decide ((List.getD t_14 (Int.toNat t_16) (0 : Int)) < (1 : Int)))
            (
            some (Sum.inr ((Go.Eng.Er.s ErrRange), ())))
            (
            cond (decide ((256 : Int) < (List.getD t_14 (Int.toNat t_16) (0 : Int))))
              (
              some (Sum.inr ((Go.Eng.Er.s ErrRange), ())))
              (
              (g_shape_Valid_0 N n d_1 n_3 t_14 t_15 (wi64 (t_16 + (1 : Int)))))))
          (
          none))
        (
        none))
      (
      some (Sum.inl (d_1, (n_3, ()))))

abbrev h_shape_Valid_1 : List Slot := [.dead, .dead, .dead, .data (.int .i64), .dead, .dead, .dead, .dead, .dead, .dead, .dead, .dead, .dead, .dead, .dead, .dead, .dead, .dead, .dead, .dead, .dead, .dead, .dead, .dead, .dead, .dead, .dead, .dead, .dead, .data (.sl (.int .i64)), .data (.int .i64), .data (.int .i64), .dead, .dead, .dead, .dead, .dead, .dead, .dead, .dead, .dead, .dead]
abbrev e_shape_Valid_1 : List (AX × List Slot) := [(AX.exit 2, [.dead, .dead, .dead, .dead, .dead, .dead, .dead, .dead, .dead, .dead, .dead, .dead, .dead, .dead, .dead, .dead, .dead, .dead, .dead, .dead, .dead, .dead, .dead, .dead, .dead, .dead, .dead, .dead, .dead, .dead, .dead, .dead, .dead, .dead, .dead, .dead, .dead, .dead, .dead, .dead, .dead, .dead]), (AX.ret, [.dead, .dead, .data .err, .dead, .dead, .dead, .dead, .dead, .dead, .dead, .dead, .dead, .dead, .dead, .dead, .dead, .dead, .dead, .dead, .dead, .dead, .dead, .dead, .dead, .dead, .dead, .dead, .dead, .dead, .dead, .dead, .dead, .dead, .dead, .dead, .dead, .dead, .dead, .dead, .dead, .dead, .dead])]
def g_shape_Valid_1 (N : Nat) : Nat → Int → List Int → Int → Int → Option (Sum Unit (Er × Unit))
  | 0, _, _, _, _ => none
  | n + 1, n_3, t_29, t_30, t_31 =>
    cond (decide (t_31 < t_30))
      (
      cond (decide ((0 : Int) ≤ t_31))
        (
        cond (decide ((Int.toNat t_31) < (List.length t_29)))
          (
          cond (decide ((16384 : Int) < (wi64 (n_3 * (List.getD t_29 (Int.toNat t_31) (0 : Int))))))
            (
            some (Sum.inr ((Go.Eng.Er.s ErrMany), ())))
            (
            (g_shape_Valid_1 N n (wi64 (n_3 * (List.getD t_29 (Int.toNat t_31) (0 : Int)))) t_29 t_30 (wi64 (t_31 + (1 : Int))))))
          (
          none))
        (
        none))
      (
      some (Sum.inl ()))

def F_shape_Valid (N : Nat) (d_0 : (List Int × Bool)) : Option (Er × Unit) :=
  cond (decide ((4 : Int) < (Nat.cast (List.length (d_0).1) : Int)))
    (
    some ((Go.Eng.Er.s ErrMany), ()))
    (
    Option.bind (g_shape_Valid_0 N N (d_0, ()) (1 : Int) (d_0).1 (Nat.cast (List.length (d_0).1) : Int) (0 : Int)) fun y0 =>
    Sum.elim (fun y1 =>
      Option.bind (g_shape_Valid_1 N N ((y1).2).1 (((y1).1).1).1 (Nat.cast (List.length (((y1).1).1).1) : Int) (0 : Int)) fun y2 =>
      Sum.elim (fun y3 =>
        some (Go.Eng.Er.nil, ()))
        (fun y4 =>
        some y4) y2)
      (fun y5 =>
      some y5) y0)

abbrev c_shape_Valid (N : Nat) : CallSpec := ⟨51, ps_shape_Valid, rs_shape_Valid, fun x => F_shape_Valid N x.1⟩
abbrev l_shape_Valid_1 (N : Nat) : LoopSpec := ⟨1, h_shape_Valid_1, e_shape_Valid_1, fun x => g_shape_Valid_1 N N x.1 x.2.1 x.2.2.1 x.2.2.2.1⟩
abbrev l_shape_Valid_0 (N : Nat) : LoopSpec := ⟨0, h_shape_Valid_0, e_shape_Valid_0, fun x => g_shape_Valid_0 N N x.1 x.2.1 x.2.2.1 x.2.2.2.1 x.2.2.2.2.1⟩

theorem cs_shape_Valid_ok (S : Nat → Addr) (N : Nat) : CallsOK Go.Proofs.Tryd.prog E S (cs_shape_Valid N) :=
  .nil
noncomputable abbrev b_shape_Valid_1 : Code := (loopsOf b_shape_Valid).getD 1 .skip
theorem g_shape_Valid_1_ok (S : Nat → Addr) (N : Nat) : ∀ n x y, (fun (x : Val (slotsTy h_shape_Valid_1)) => g_shape_Valid_1 N n x.1 x.2.1 x.2.2.1 x.2.2.2.1) x = some y → LoopCon Go.Proofs.Tryd.prog E S b_shape_Valid_1 (encSlots h_shape_Valid_1 x) (encEx e_shape_Valid_1 y).1 (encEx e_shape_Valid_1 y).2 :=
  loop_spec E_ok mixed (cs_shape_Valid_ok S N) (all := loopsOf b_shape_Valid) (ls := []) (.nil) (i := 1) (by kernel_rfl) (inner_of (by kernel_rfl)) (head := h_shape_Valid_1) (ex := e_shape_Valid_1) (fun n (x : Val (slotsTy h_shape_Valid_1)) => g_shape_Valid_1 N n x.1 x.2.1 x.2.2.1 x.2.2.2.1) (fun _ => rfl) (fun n x => by kernel_rfl)
noncomputable abbrev b_shape_Valid_0 : Code := (loopsOf b_shape_Valid).getD 0 .skip
theorem g_shape_Valid_0_ok (S : Nat → Addr) (N : Nat) : ∀ n x y, (fun (x : Val (slotsTy h_shape_Valid_0)) => g_shape_Valid_0 N n x.1 x.2.1 x.2.2.1 x.2.2.2.1 x.2.2.2.2.1) x = some y → LoopCon Go.Proofs.Tryd.prog E S b_shape_Valid_0 (encSlots h_shape_Valid_0 x) (encEx e_shape_Valid_0 y).1 (encEx e_shape_Valid_0 y).2 :=
  loop_spec E_ok mixed (cs_shape_Valid_ok S N) (all := loopsOf b_shape_Valid) (ls := []) (.nil) (i := 0) (by kernel_rfl) (inner_of (by kernel_rfl)) (head := h_shape_Valid_0) (ex := e_shape_Valid_0) (fun n (x : Val (slotsTy h_shape_Valid_0)) => g_shape_Valid_0 N n x.1 x.2.1 x.2.2.1 x.2.2.2.1 x.2.2.2.2.1) (fun _ => rfl) (fun n x => by kernel_rfl)
theorem F_shape_Valid_ok (S : Nat → Addr) (N : Nat) : ∀ x y, (c_shape_Valid N).g x = some y → FCon Go.Proofs.Tryd.prog E S 51 ps_shape_Valid rs_shape_Valid x y := by
  intro x y h
  exact fun_spec E_ok mixed (cs_shape_Valid_ok S N) (f := 51) (fi := ⟨b_shape_Valid, 42, Go.Proofs.Tryd.f51.results.toList⟩) (by kernel_rfl) (ls := [l_shape_Valid_1 N, l_shape_Valid_0 N]) (.cons (by kernel_rfl) (g_shape_Valid_1_ok S N N) (.cons (by kernel_rfl) (g_shape_Valid_0_ok S N N) (.nil))) (by kernel_rfl) (ps := ps_shape_Valid) (rs := rs_shape_Valid) (Eq.trans (b := F_shape_Valid N x.1) (by kernel_rfl) h)

/-! lodge/shape.fair -/

abbrev ps_shape_fair : List Ty := [(.sl (.int .i64))]
abbrev rs_shape_fair : List Slot := [.data .bool]
abbrev cs_shape_fair (N : Nat) : List CallSpec := [c_shape_Valid N]
noncomputable abbrev b_shape_fair : Code := (Go.Proofs.Tryd.f70.body).getD .skip

def F_shape_fair (N : Nat) (shape_0 : List Int) : Option (Bool × Unit) :=
  Option.bind (F_shape_Valid N (shape_0, false)) fun y0 =>
  some ((Go.Eng.Er.isNil (y0).1), ())

abbrev c_shape_fair (N : Nat) : CallSpec := ⟨70, ps_shape_fair, rs_shape_fair, fun x => F_shape_fair N x.1⟩

theorem cs_shape_fair_ok (S : Nat → Addr) (N : Nat) : CallsOK Go.Proofs.Tryd.prog E S (cs_shape_fair N) :=
  .cons (F_shape_Valid_ok S N) (.nil)
theorem F_shape_fair_ok (S : Nat → Addr) (N : Nat) : ∀ x y, (c_shape_fair N).g x = some y → FCon Go.Proofs.Tryd.prog E S 70 ps_shape_fair rs_shape_fair x y := by
  intro x y h
  exact fun_spec E_ok mixed (cs_shape_fair_ok S N) (f := 70) (fi := ⟨b_shape_fair, 7, Go.Proofs.Tryd.f70.results.toList⟩) (by kernel_rfl) (ls := []) (.nil) (by kernel_rfl) (ps := ps_shape_fair) (rs := rs_shape_fair) (Eq.trans (b := F_shape_fair N x.1) (by kernel_rfl) h)

/-! lodge/shape.Elems -/

abbrev ps_shape_Elems : List Ty := [(.sl (.int .i64))]
abbrev rs_shape_Elems : List Slot := [.data (.int .i64)]
abbrev cs_shape_Elems (N : Nat) : List CallSpec := [c_shape_fair N]
noncomputable abbrev b_shape_Elems : Code := (Go.Proofs.Tryd.f40.body).getD .skip

abbrev h_shape_Elems_0 : List Slot := [.dead, .dead, .dead, .data (.int .i64), .dead, .dead, .dead, .dead, .dead, .data (.sl (.int .i64)), .data (.int .i64), .data (.int .i64), .dead, .dead, .dead, .dead, .dead, .dead, .dead, .dead]
abbrev e_shape_Elems_0 : List (AX × List Slot) := [(AX.exit 0, [.dead, .dead, .dead, .data (.int .i64), .dead, .dead, .dead, .dead, .dead, .dead, .dead, .dead, .dead, .dead, .dead, .dead, .dead, .dead, .dead, .dead])]
def g_shape_Elems_0 (N : Nat) : Nat → Int → List Int → Int → Int → Option (Int × Unit)
  | 0, _, _, _, _ => none
  | n + 1, n_3, t_9, t_10, t_11 =>
    cond (decide (t_11 < t_10))
      (
      cond (decide ((0 : Int) ≤ t_11))
        (
        cond (decide ((Int.toNat t_11) < (List.length t_9)))
          (
          (g_shape_Elems_0 N n (wi64 (n_3 * (List.getD t_9 (Int.toNat t_11) (0 : Int)))) t_9 t_10 (wi64 (t_11 + (1 : Int)))))
          (
          none))
        (
        none))
      (
      some (n_3, ()))

def F_shape_Elems (N : Nat) (shape_0 : List Int) : Option (Int × Unit) :=
  Option.bind (F_shape_fair N shape_0) fun y0 =>
  cond (Bool.not (y0).1)
    (
    some ((0 : Int), ()))
    (
    Option.bind (g_shape_Elems_0 N N (1 : Int) shape_0 (Nat.cast (List.length shape_0) : Int) (0 : Int)) fun y1 =>
    some y1)

abbrev c_shape_Elems (N : Nat) : CallSpec := ⟨40, ps_shape_Elems, rs_shape_Elems, fun x => F_shape_Elems N x.1⟩
abbrev l_shape_Elems_0 (N : Nat) : LoopSpec := ⟨0, h_shape_Elems_0, e_shape_Elems_0, fun x => g_shape_Elems_0 N N x.1 x.2.1 x.2.2.1 x.2.2.2.1⟩

theorem cs_shape_Elems_ok (S : Nat → Addr) (N : Nat) : CallsOK Go.Proofs.Tryd.prog E S (cs_shape_Elems N) :=
  .cons (F_shape_fair_ok S N) (.nil)
noncomputable abbrev b_shape_Elems_0 : Code := (loopsOf b_shape_Elems).getD 0 .skip
theorem g_shape_Elems_0_ok (S : Nat → Addr) (N : Nat) : ∀ n x y, (fun (x : Val (slotsTy h_shape_Elems_0)) => g_shape_Elems_0 N n x.1 x.2.1 x.2.2.1 x.2.2.2.1) x = some y → LoopCon Go.Proofs.Tryd.prog E S b_shape_Elems_0 (encSlots h_shape_Elems_0 x) (encEx e_shape_Elems_0 y).1 (encEx e_shape_Elems_0 y).2 :=
  loop_spec E_ok mixed (cs_shape_Elems_ok S N) (all := loopsOf b_shape_Elems) (ls := []) (.nil) (i := 0) (by kernel_rfl) (inner_of (by kernel_rfl)) (head := h_shape_Elems_0) (ex := e_shape_Elems_0) (fun n (x : Val (slotsTy h_shape_Elems_0)) => g_shape_Elems_0 N n x.1 x.2.1 x.2.2.1 x.2.2.2.1) (fun _ => rfl) (fun n x => by kernel_rfl)
theorem F_shape_Elems_ok (S : Nat → Addr) (N : Nat) : ∀ x y, (c_shape_Elems N).g x = some y → FCon Go.Proofs.Tryd.prog E S 40 ps_shape_Elems rs_shape_Elems x y := by
  intro x y h
  exact fun_spec E_ok mixed (cs_shape_Elems_ok S N) (f := 40) (fi := ⟨b_shape_Elems, 20, Go.Proofs.Tryd.f40.results.toList⟩) (by kernel_rfl) (ls := [l_shape_Elems_0 N]) (.cons (by kernel_rfl) (g_shape_Elems_0_ok S N N) (.nil)) (by kernel_rfl) (ps := ps_shape_Elems) (rs := rs_shape_Elems) (Eq.trans (b := F_shape_Elems N x.1) (by kernel_rfl) h)

/-! lodge/tens.fits -/

abbrev ps_tens_fits : List Ty := [(.int .i64), .bool]
abbrev rs_tens_fits : List Slot := [.data .bool]
abbrev cs_tens_fits (N : Nat) : List CallSpec := []
noncomputable abbrev b_tens_fits : Code := (Go.Proofs.Tryd.f96.body).getD .skip

def F_tens_fits (N : Nat) (n_0 : Int) (wide_1 : Bool) : Option (Bool × Unit) :=
  cond wide_1
    (
    cond (decide ((-(2147483648 : Int)) ≤ n_0))
      (
      some ((decide (n_0 ≤ (2147483647 : Int))), ()))
      (
      some (false, ())))
    (
    cond (decide ((-(128 : Int)) ≤ n_0))
      (
      some ((decide (n_0 ≤ (127 : Int))), ()))
      (
      some (false, ())))

abbrev c_tens_fits (N : Nat) : CallSpec := ⟨96, ps_tens_fits, rs_tens_fits, fun x => F_tens_fits N x.1 x.2.1⟩

theorem cs_tens_fits_ok (S : Nat → Addr) (N : Nat) : CallsOK Go.Proofs.Tryd.prog E S (cs_tens_fits N) :=
  .nil
theorem F_tens_fits_ok (S : Nat → Addr) (N : Nat) : ∀ x y, (c_tens_fits N).g x = some y → FCon Go.Proofs.Tryd.prog E S 96 ps_tens_fits rs_tens_fits x y := by
  intro x y h
  exact fun_spec E_ok mixed (cs_tens_fits_ok S N) (f := 96) (fi := ⟨b_tens_fits, 18, Go.Proofs.Tryd.f96.results.toList⟩) (by kernel_rfl) (ls := []) (.nil) (by kernel_rfl) (ps := ps_tens_fits) (rs := rs_tens_fits) (Eq.trans (b := F_tens_fits N x.1 x.2.1) (by kernel_rfl) h)

/-! lodge/tens.Valid -/

abbrev ps_tens_Valid : List Ty := [(.st (.pair (.st (.pair (.sl (.int .i64)) .bool)) (.sl (.int .i64))))]
abbrev rs_tens_Valid : List Slot := [.data .err]
abbrev cs_tens_Valid (N : Nat) : List CallSpec := [c_shape_Valid N, c_shape_Elems N, c_tens_fits N]
noncomputable abbrev b_tens_Valid : Code := (Go.Proofs.Tryd.f69.body).getD .skip

abbrev h_tens_Valid_0 : List Slot := [.dead, .box [.d (.st (.pair (.st (.pair (.sl (.int .i64)) .bool)) (.sl (.int .i64))))], .dead, .dead, .dead, .dead, .dead, .dead, .dead, .dead, .dead, .dead, .dead, .dead, .dead, .dead, .dead, .dead, .dead, .dead, .dead, .dead, .data (.sl (.int .i64)), .data (.int .i64), .data (.int .i64), .dead, .dead, .dead, .dead, .dead, .dead, .dead, .dead, .dead, .dead, .dead, .dead, .dead, .dead, .dead, .dead]
abbrev e_tens_Valid_0 : List (AX × List Slot) := [(AX.exit 0, [.dead, .dead, .dead, .dead, .dead, .dead, .dead, .dead, .dead, .dead, .dead, .dead, .dead, .dead, .dead, .dead, .dead, .dead, .dead, .dead, .dead, .dead, .dead, .dead, .dead, .dead, .dead, .dead, .dead, .dead, .dead, .dead, .dead, .dead, .dead, .dead, .dead, .dead, .dead, .dead, .dead]), (AX.ret, [.dead, .dead, .data .err, .dead, .dead, .dead, .dead, .dead, .dead, .dead, .dead, .dead, .dead, .dead, .dead, .dead, .dead, .dead, .dead, .dead, .dead, .dead, .dead, .dead, .dead, .dead, .dead, .dead, .dead, .dead, .dead, .dead, .dead, .dead, .dead, .dead, .dead, .dead, .dead, .dead, .dead])]
def g_tens_Valid_0 (N : Nat) : Nat → (((List Int × Bool) × List Int) × Unit) → List Int → Int → Int → Option (Sum Unit (Er × Unit))
  | 0, _, _, _, _ => none
  | n + 1, t_1, t_22, t_23, t_24 =>
    cond (decide (t_24 < t_23))
      (
      cond (decide ((0 : Int) ≤ t_24))
        (
        cond (decide ((Int.toNat t_24) < (List.length t_22)))
          (
          Option.bind (F_tens_fits N (List.getD t_22 (Int.toNat t_24) (0 : Int)) (((t_1).1).1).2) fun y3 =>
          cond (Bool.not (y3).1)
            (
            some (Sum.inr ((Go.Eng.Er.at t_24 ErrRange), ())))
            (
            (g_tens_Valid_0 N n t_1 t_22 t_23 (wi64 (t_24 + (1 : Int))))))
          (
          none))
        (
        none))
      (
      some (Sum.inl ()))

def F_tens_Valid (N : Nat) (t_0 : ((List Int × Bool) × List Int)) : Option (Er × Unit) :=
  Option.bind (F_shape_Valid N (t_0).1) fun y0 =>
  cond (Bool.not (Go.Eng.Er.isNil (y0).1))
    (
    some y0)
    (
    Option.bind (F_shape_Elems N ((t_0).1).1) fun y1 =>
    cond (decide (@Ne Int (Nat.cast (List.length (t_0).2) : Int) (y1).1))
      (
      some ((Go.Eng.Er.s ErrShape), ()))
      (
      Option.bind (g_tens_Valid_0 N N (t_0, ()) (t_0).2 (Nat.cast (List.length (t_0).2) : Int) (0 : Int)) fun y2 =>
      Sum.elim (fun y3 =>
        some (Go.Eng.Er.nil, ()))
        (fun y4 =>
        some y4) y2))

abbrev c_tens_Valid (N : Nat) : CallSpec := ⟨69, ps_tens_Valid, rs_tens_Valid, fun x => F_tens_Valid N x.1⟩
abbrev l_tens_Valid_0 (N : Nat) : LoopSpec := ⟨0, h_tens_Valid_0, e_tens_Valid_0, fun x => g_tens_Valid_0 N N x.1 x.2.1 x.2.2.1 x.2.2.2.1⟩

theorem cs_tens_Valid_ok (S : Nat → Addr) (N : Nat) : CallsOK Go.Proofs.Tryd.prog E S (cs_tens_Valid N) :=
  .cons (F_shape_Valid_ok S N) (.cons (F_shape_Elems_ok S N) (.cons (F_tens_fits_ok S N) (.nil)))
noncomputable abbrev b_tens_Valid_0 : Code := (loopsOf b_tens_Valid).getD 0 .skip
theorem g_tens_Valid_0_ok (S : Nat → Addr) (N : Nat) : ∀ n x y, (fun (x : Val (slotsTy h_tens_Valid_0)) => g_tens_Valid_0 N n x.1 x.2.1 x.2.2.1 x.2.2.2.1) x = some y → LoopCon Go.Proofs.Tryd.prog E S b_tens_Valid_0 (encSlots h_tens_Valid_0 x) (encEx e_tens_Valid_0 y).1 (encEx e_tens_Valid_0 y).2 :=
  loop_spec E_ok mixed (cs_tens_Valid_ok S N) (all := loopsOf b_tens_Valid) (ls := []) (.nil) (i := 0) (by kernel_rfl) (inner_of (by kernel_rfl)) (head := h_tens_Valid_0) (ex := e_tens_Valid_0) (fun n (x : Val (slotsTy h_tens_Valid_0)) => g_tens_Valid_0 N n x.1 x.2.1 x.2.2.1 x.2.2.2.1) (fun _ => rfl) (fun n x => by kernel_rfl)
theorem F_tens_Valid_ok (S : Nat → Addr) (N : Nat) : ∀ x y, (c_tens_Valid N).g x = some y → FCon Go.Proofs.Tryd.prog E S 69 ps_tens_Valid rs_tens_Valid x y := by
  intro x y h
  exact fun_spec E_ok mixed (cs_tens_Valid_ok S N) (f := 69) (fi := ⟨b_tens_Valid, 41, Go.Proofs.Tryd.f69.results.toList⟩) (by kernel_rfl) (ls := [l_tens_Valid_0 N]) (.cons (by kernel_rfl) (g_tens_Valid_0_ok S N N) (.nil)) (by kernel_rfl) (ps := ps_tens_Valid) (rs := rs_tens_Valid) (Eq.trans (b := F_tens_Valid N x.1) (by kernel_rfl) h)

/-! slices.Clone[[]int,int] -/

abbrev ps_slices_Clone_int_int : List Ty := [(.sl (.int .i64))]
abbrev rs_slices_Clone_int_int : List Slot := [.sl (.int .i64)]
abbrev cs_slices_Clone_int_int (N : Nat) : List CallSpec := []
noncomputable abbrev b_slices_Clone_int_int : Code := (Go.Proofs.Tryd.f91.body).getD .skip

def F_slices_Clone_int_int (N : Nat) (s_0 : List Int) : Option (List Int × Unit) :=
  cond (decide ((((0 : Nat) + (List.length s_0)) * (8 + (1 : Nat))) ≤ Go.Eng.most))
    (
    cond (decide (((0 : Nat) + (List.length s_0)) = (List.length (([] : List Int) ++ s_0))))
      (
      some ((([] : List Int) ++ s_0), ()))
      (
      none))
    (
    none)

abbrev c_slices_Clone_int_int (N : Nat) : CallSpec := ⟨91, ps_slices_Clone_int_int, rs_slices_Clone_int_int, fun x => F_slices_Clone_int_int N x.1⟩

theorem cs_slices_Clone_int_int_ok (S : Nat → Addr) (N : Nat) : CallsOK Go.Proofs.Tryd.prog E S (cs_slices_Clone_int_int N) :=
  .nil
theorem F_slices_Clone_int_int_ok (S : Nat → Addr) (N : Nat) : ∀ x y, (c_slices_Clone_int_int N).g x = some y → FCon Go.Proofs.Tryd.prog E S 91 ps_slices_Clone_int_int rs_slices_Clone_int_int x y := by
  intro x y h
  exact nil_spec E_ok mixed (f := 91) (fi := ⟨b_slices_Clone_int_int, 8, Go.Proofs.Tryd.f91.results.toList⟩) (by kernel_rfl) (by kernel_rfl) (t := (.int .i64)) (l := x.1) (rs := rs_slices_Clone_int_int) (y := y) (Eq.trans (b := F_slices_Clone_int_int N x.1) (by kernel_rfl) h) (fun hl => by
    have h' : F_slices_Clone_int_int N x.1 = some y := h
    rw [hl] at h'
    exact (show funKA E [] [] ⟨b_slices_Clone_int_int, 8, Go.Proofs.Tryd.f91.results.toList⟩ [.v (.slice none 0 0)] rs_slices_Clone_int_int = some ([], ()) by kernel_rfl).trans ((show F_slices_Clone_int_int N [] = some ([], ()) by kernel_rfl).symm.trans h'))

/-! lodge/shape.Clone -/

abbrev ps_shape_Clone : List Ty := [(.st (.pair (.sl (.int .i64)) .bool))]
abbrev rs_shape_Clone : List Slot := [.ag [.sl (.int .i64), .d .bool]]
abbrev cs_shape_Clone (N : Nat) : List CallSpec := [c_slices_Clone_int_int N]
noncomputable abbrev b_shape_Clone : Code := (Go.Proofs.Tryd.f89.body).getD .skip

def F_shape_Clone (N : Nat) (d_0 : (List Int × Bool)) : Option ((List Int × (Bool × Unit)) × Unit) :=
  Option.bind (F_slices_Clone_int_int N (d_0).1) fun y0 =>
  cond (decide ((List.length (y0).1) = (List.length (y0).1)))
    (
    some (((y0).1, ((d_0).2, ())), ()))
    (
    none)

abbrev c_shape_Clone (N : Nat) : CallSpec := ⟨89, ps_shape_Clone, rs_shape_Clone, fun x => F_shape_Clone N x.1⟩

theorem cs_shape_Clone_ok (S : Nat → Addr) (N : Nat) : CallsOK Go.Proofs.Tryd.prog E S (cs_shape_Clone N) :=
  .cons (F_slices_Clone_int_int_ok S N) (.nil)
theorem F_shape_Clone_ok (S : Nat → Addr) (N : Nat) : ∀ x y, (c_shape_Clone N).g x = some y → FCon Go.Proofs.Tryd.prog E S 89 ps_shape_Clone rs_shape_Clone x y := by
  intro x y h
  exact fun_spec E_ok mixed (cs_shape_Clone_ok S N) (f := 89) (fi := ⟨b_shape_Clone, 9, Go.Proofs.Tryd.f89.results.toList⟩) (by kernel_rfl) (ls := []) (.nil) (by kernel_rfl) (ps := ps_shape_Clone) (rs := rs_shape_Clone) (Eq.trans (b := F_shape_Clone N x.1) (by kernel_rfl) h)

/-! slices.Equal[[]int,int] -/

abbrev ps_slices_Equal_int_int : List Ty := [(.sl (.int .i64)), (.sl (.int .i64))]
abbrev rs_slices_Equal_int_int : List Slot := [.data .bool]
abbrev cs_slices_Equal_int_int (N : Nat) : List CallSpec := []
noncomputable abbrev b_slices_Equal_int_int : Code := (Go.Proofs.Tryd.f104.body).getD .skip

abbrev h_slices_Equal_int_int_0 : List Slot := [.data (.sl (.int .i64)), .data (.sl (.int .i64)), .dead, .dead, .dead, .dead, .dead, .dead, .dead, .dead, .dead, .dead, .data (.int .i64), .data (.int .i64), .dead, .dead, .dead, .dead, .dead, .dead, .dead, .dead, .dead, .dead, .dead, .dead]
abbrev e_slices_Equal_int_int_0 : List (AX × List Slot) := [(AX.exit 0, [.dead, .dead, .dead, .dead, .dead, .dead, .dead, .dead, .dead, .dead, .dead, .dead, .dead, .dead, .dead, .dead, .dead, .dead, .dead, .dead, .dead, .dead, .dead, .dead, .dead, .dead]), (AX.ret, [.dead, .dead, .dead, .dead, .data .bool, .dead, .dead, .dead, .dead, .dead, .dead, .dead, .dead, .dead, .dead, .dead, .dead, .dead, .dead, .dead, .dead, .dead, .dead, .dead, .dead, .dead])]
def g_slices_Equal_int_int_0 (N : Nat) : Nat → List Int → List Int → Int → Int → Option (Sum Unit (Bool × Unit))
  | 0, _, _, _, _ => none
  | n + 1, s1_0, s2_1, t_12, t_13 =>
    cond (decide (t_13 < t_12))
      (
      cond (decide ((0 : Int) ≤ t_13))
        (
        cond (decide ((Int.toNat t_13) < (List.length s1_0)))
          (
          cond (decide ((0 : Int) ≤ t_13))
            (
            cond (decide ((Int.toNat t_13) < (List.length s2_1)))
              (
              cond (decide (@Ne Int (List.getD s1_0 (Int.toNat t_13) (0 : Int)) (List.getD s2_1 (Int.toNat t_13) (0 : Int))))
                (
                some (Sum.inr (false, ())))
                (
                (g_slices_Equal_int_int_0 N n s1_0 s2_1 t_12 (wi64 (t_13 + (1 : Int))))))
              (
              none))
            (
            none))
          (
          none))
        (
        none))
      (
      some (Sum.inl ()))

def F_slices_Equal_int_int (N : Nat) (s1_0 : List Int) (s2_1 : List Int) : Option (Bool × Unit) :=
  cond (decide (@Ne Int (Nat.cast (List.length s1_0) : Int) (Nat.cast (List.length s2_1) : Int)))
    (
    some (false, ()))
    (
    Option.bind (g_slices_Equal_int_int_0 N N s1_0 s2_1 (Nat.cast (List.length s1_0) : Int) (0 : Int)) fun y0 =>
    Sum.elim (fun y1 =>
      some (true, ()))
      (fun y2 =>
      some y2) y0)

abbrev c_slices_Equal_int_int (N : Nat) : CallSpec := ⟨104, ps_slices_Equal_int_int, rs_slices_Equal_int_int, fun x => F_slices_Equal_int_int N x.1 x.2.1⟩
abbrev l_slices_Equal_int_int_0 (N : Nat) : LoopSpec := ⟨0, h_slices_Equal_int_int_0, e_slices_Equal_int_int_0, fun x => g_slices_Equal_int_int_0 N N x.1 x.2.1 x.2.2.1 x.2.2.2.1⟩

theorem cs_slices_Equal_int_int_ok (S : Nat → Addr) (N : Nat) : CallsOK Go.Proofs.Tryd.prog E S (cs_slices_Equal_int_int N) :=
  .nil
noncomputable abbrev b_slices_Equal_int_int_0 : Code := (loopsOf b_slices_Equal_int_int).getD 0 .skip
theorem g_slices_Equal_int_int_0_ok (S : Nat → Addr) (N : Nat) : ∀ n x y, (fun (x : Val (slotsTy h_slices_Equal_int_int_0)) => g_slices_Equal_int_int_0 N n x.1 x.2.1 x.2.2.1 x.2.2.2.1) x = some y → LoopCon Go.Proofs.Tryd.prog E S b_slices_Equal_int_int_0 (encSlots h_slices_Equal_int_int_0 x) (encEx e_slices_Equal_int_int_0 y).1 (encEx e_slices_Equal_int_int_0 y).2 :=
  loop_spec E_ok mixed (cs_slices_Equal_int_int_ok S N) (all := loopsOf b_slices_Equal_int_int) (ls := []) (.nil) (i := 0) (by kernel_rfl) (inner_of (by kernel_rfl)) (head := h_slices_Equal_int_int_0) (ex := e_slices_Equal_int_int_0) (fun n (x : Val (slotsTy h_slices_Equal_int_int_0)) => g_slices_Equal_int_int_0 N n x.1 x.2.1 x.2.2.1 x.2.2.2.1) (fun _ => rfl) (fun n x => by kernel_rfl)
theorem F_slices_Equal_int_int_ok (S : Nat → Addr) (N : Nat) : ∀ x y, (c_slices_Equal_int_int N).g x = some y → FCon Go.Proofs.Tryd.prog E S 104 ps_slices_Equal_int_int rs_slices_Equal_int_int x y := by
  intro x y h
  exact fun_spec E_ok mixed (cs_slices_Equal_int_int_ok S N) (f := 104) (fi := ⟨b_slices_Equal_int_int, 26, Go.Proofs.Tryd.f104.results.toList⟩) (by kernel_rfl) (ls := [l_slices_Equal_int_int_0 N]) (.cons (by kernel_rfl) (g_slices_Equal_int_int_0_ok S N N) (.nil)) (by kernel_rfl) (ps := ps_slices_Equal_int_int) (rs := rs_slices_Equal_int_int) (Eq.trans (b := F_slices_Equal_int_int N x.1 x.2.1) (by kernel_rfl) h)

/-! lodge/shape.Same -/

abbrev ps_shape_Same : List Ty := [(.st (.pair (.sl (.int .i64)) .bool)), (.st (.pair (.sl (.int .i64)) .bool))]
abbrev rs_shape_Same : List Slot := [.data .bool]
abbrev cs_shape_Same (N : Nat) : List CallSpec := [c_slices_Equal_int_int N]
noncomputable abbrev b_shape_Same : Code := (Go.Proofs.Tryd.f90.body).getD .skip

def F_shape_Same (N : Nat) (a_0 : (List Int × Bool)) (b_1 : (List Int × Bool)) : Option (Bool × Unit) :=
  cond ((a_0).2 == (b_1).2)
    (
    Option.bind (F_slices_Equal_int_int N (a_0).1 (b_1).1) fun y0 =>
    some y0)
    (
    some (false, ()))

abbrev c_shape_Same (N : Nat) : CallSpec := ⟨90, ps_shape_Same, rs_shape_Same, fun x => F_shape_Same N x.1 x.2.1⟩

theorem cs_shape_Same_ok (S : Nat → Addr) (N : Nat) : CallsOK Go.Proofs.Tryd.prog E S (cs_shape_Same N) :=
  .cons (F_slices_Equal_int_int_ok S N) (.nil)
theorem F_shape_Same_ok (S : Nat → Addr) (N : Nat) : ∀ x y, (c_shape_Same N).g x = some y → FCon Go.Proofs.Tryd.prog E S 90 ps_shape_Same rs_shape_Same x y := by
  intro x y h
  exact fun_spec E_ok mixed (cs_shape_Same_ok S N) (f := 90) (fi := ⟨b_shape_Same, 17, Go.Proofs.Tryd.f90.results.toList⟩) (by kernel_rfl) (ls := []) (.nil) (by kernel_rfl) (ps := ps_shape_Same) (rs := rs_shape_Same) (Eq.trans (b := F_shape_Same N x.1 x.2.1) (by kernel_rfl) h)

/-! lodge/soft.looks -/

abbrev ps_soft_looks : List Ty := [(.int .i64), (.sl (.st (.pair (.sl (.int .i64)) .bool)))]
abbrev rs_soft_looks : List Slot := [.ag [.sl (.int .i64), .d .bool], .data .bool]
abbrev cs_soft_looks (N : Nat) : List CallSpec := [c_slices_Clone_int_int N, c_shape_Clone N, c_shape_Same N]
noncomputable abbrev b_soft_looks : Code := (Go.Proofs.Tryd.f52.body).getD .skip

def F_soft_looks (N : Nat) (op_0 : Int) (ins_1 : List ((List Int × Bool))) : Option ((List Int × (Bool × Unit)) × (Bool × Unit)) :=
  cond (decide (0 < (List.length ins_1)))
    (
    cond (decide (op_0 = (16 : Int)))
      (
      Option.bind (F_shape_Clone N (List.getD ins_1 0 (([] : List Int), false))) fun y0 =>
      cond (decide ((0 : Int) < (Nat.cast (List.length ((List.getD ins_1 0 (([] : List Int), false))).1) : Int)))
        (
        cond (Bool.not ((List.getD ins_1 0 (([] : List Int), false))).2)
          (
          cond (decide (1 < (List.length ins_1)))
            (
            Option.bind (F_shape_Same N (List.getD ins_1 1 (([] : List Int), false)) (((256 : Int) :: ([] : List Int)), true)) fun y1 =>
            cond (decide ((List.length ((y0).1).1) = (List.length ((y0).1).1)))
              (
              some ((y0).1, y1))
              (
              none))
            (
            none))
          (
          cond (decide ((List.length ((y0).1).1) = (List.length ((y0).1).1)))
            (
            some ((y0).1, (false, ())))
            (
            none)))
        (
        cond (decide ((List.length ((y0).1).1) = (List.length ((y0).1).1)))
          (
          some ((y0).1, (false, ())))
          (
          none)))
      (
      cond (decide (op_0 = (17 : Int)))
        (
        cond (decide (1 < (List.length ins_1)))
          (
          cond (decide (@Ne Int (Nat.cast (List.length ((List.getD ins_1 0 (([] : List Int), false))).1) : Int) (2 : Int)))
            (
            some ((([] : List Int), (false, ())), (false, ())))
            (
            cond (decide (@Ne Int (Nat.cast (List.length ((List.getD ins_1 1 (([] : List Int), false))).1) : Int) (1 : Int)))
              (
              some ((([] : List Int), (false, ())), (false, ())))
              (
              cond (Bool.not ((List.getD ins_1 1 (([] : List Int), false))).2)
                (
                some ((([] : List Int), (false, ())), (false, ())))
                (
                cond (decide (0 < (List.length ((List.getD ins_1 1 (([] : List Int), false))).1)))
                  (
                  cond (decide (1 < (List.length ((List.getD ins_1 0 (([] : List Int), false))).1)))
                    (
                    some ((((List.getD ((List.getD ins_1 1 (([] : List Int), false))).1 0 (0 : Int)) :: ((List.getD ((List.getD ins_1 0 (([] : List Int), false))).1 1 (0 : Int)) :: ([] : List Int))), (((List.getD ins_1 0 (([] : List Int), false))).2, ())), (true, ())))
                    (
                    none))
                  (
                  none)))))
          (
          none))
        (
        cond (decide ((Nat.cast (List.length ((List.getD ins_1 0 (([] : List Int), false))).1) : Int) = (0 : Int)))
          (
          some ((([] : List Int), (false, ())), (false, ())))
          (
          cond (decide ((0 : Int) ≤ (wi64 ((Nat.cast (List.length ((List.getD ins_1 0 (([] : List Int), false))).1) : Int) - (1 : Int)))))
            (
            cond (decide ((Int.toNat (wi64 ((Nat.cast (List.length ((List.getD ins_1 0 (([] : List Int), false))).1) : Int) - (1 : Int)))) ≤ (List.length ((List.getD ins_1 0 (([] : List Int), false))).1)))
              (
              Option.bind (F_slices_Clone_int_int N (List.take ((Int.toNat (wi64 ((Nat.cast (List.length ((List.getD ins_1 0 (([] : List Int), false))).1) : Int) - (1 : Int)))) - (0 : Nat)) ((List.getD ins_1 0 (([] : List Int), false))).1)) fun y2 =>
              cond (decide ((List.length (y2).1) = (List.length (y2).1)))
                (
                some (((y2).1, (true, ())), (true, ())))
                (
                none))
              (
              none))
            (
            none)))))
    (
    none)

abbrev c_soft_looks (N : Nat) : CallSpec := ⟨52, ps_soft_looks, rs_soft_looks, fun x => F_soft_looks N x.1 x.2.1⟩

theorem cs_soft_looks_ok (S : Nat → Addr) (N : Nat) : CallsOK Go.Proofs.Tryd.prog E S (cs_soft_looks N) :=
  .cons (F_slices_Clone_int_int_ok S N) (.cons (F_shape_Clone_ok S N) (.cons (F_shape_Same_ok S N) (.nil)))
theorem F_soft_looks_ok (S : Nat → Addr) (N : Nat) : ∀ x y, (c_soft_looks N).g x = some y → FCon Go.Proofs.Tryd.prog E S 52 ps_soft_looks rs_soft_looks x y := by
  intro x y h
  exact fun_spec E_ok mixed (cs_soft_looks_ok S N) (f := 52) (fi := ⟨b_soft_looks, 76, Go.Proofs.Tryd.f52.results.toList⟩) (by kernel_rfl) (ls := []) (.nil) (by kernel_rfl) (ps := ps_soft_looks) (rs := rs_soft_looks) (Eq.trans (b := F_soft_looks N x.1 x.2.1) (by kernel_rfl) h)

/-! lodge/soft.Result -/

abbrev ps_soft_Result : List Ty := [(.int .i64), (.sl (.st (.pair (.sl (.int .i64)) .bool)))]
abbrev rs_soft_Result : List Slot := [.data (.st (.pair (.sl (.int .i64)) .bool)), .data .err]
abbrev cs_soft_Result (N : Nat) : List CallSpec := [c_shape_Valid N, c_soft_looks N]
noncomputable abbrev b_soft_Result : Code := (Go.Proofs.Tryd.f24.body).getD .skip

abbrev h_soft_Result_0 : List Slot := [.data (.int .i64), .data (.sl (.st (.pair (.sl (.int .i64)) .bool))), .dead, .dead, .box [.sl (.int .i64), .d .bool], .dead, .dead, .dead, .dead, .dead, .dead, .dead, .dead, .dead, .dead, .dead, .dead, .dead, .dead, .dead, .dead, .dead, .dead, .dead, .dead, .dead, .dead, .dead, .data (.sl (.st (.pair (.sl (.int .i64)) .bool))), .data (.int .i64), .data (.int .i64), .dead, .dead, .dead, .dead, .dead, .dead, .dead, .dead, .dead, .dead, .dead, .dead, .dead, .dead, .dead, .dead, .dead, .dead, .dead, .dead, .dead, .dead, .dead, .dead, .dead, .dead, .dead]
abbrev e_soft_Result_0 : List (AX × List Slot) := [(AX.exit 1, [.data (.int .i64), .data (.sl (.st (.pair (.sl (.int .i64)) .bool))), .dead, .dead, .box [.sl (.int .i64), .d .bool], .dead, .dead, .dead, .dead, .dead, .dead, .dead, .dead, .dead, .dead, .dead, .dead, .dead, .dead, .dead, .dead, .dead, .dead, .dead, .dead, .dead, .dead, .dead, .dead, .dead, .dead, .dead, .dead, .dead, .dead, .dead, .dead, .dead, .dead, .dead, .dead, .dead, .dead, .dead, .dead, .dead, .dead, .dead, .dead, .dead, .dead, .dead, .dead, .dead, .dead, .dead, .dead, .dead]), (AX.ret, [.dead, .dead, .dead, .dead, .box [.sl (.int .i64), .d .bool], .data .err, .dead, .dead, .dead, .dead, .dead, .dead, .dead, .dead, .dead, .dead, .dead, .dead, .dead, .dead, .dead, .dead, .dead, .dead, .dead, .dead, .dead, .dead, .dead, .dead, .dead, .dead, .dead, .dead, .dead, .dead, .dead, .dead, .dead, .dead, .dead, .dead, .dead, .dead, .dead, .dead, .dead, .dead, .dead, .dead, .dead, .dead, .dead, .dead, .dead, .dead, .dead, .dead])]
def g_soft_Result_0 (N : Nat) : Nat → Int → List ((List Int × Bool)) → (List Int × (Bool × Unit)) → List ((List Int × Bool)) → Int → Int → Option (Sum (Int × (List ((List Int × Bool)) × ((List Int × (Bool × Unit)) × Unit))) ((List Int × (Bool × Unit)) × (Er × Unit)))
  | 0, _, _, _, _, _, _ => none
  | n + 1, op_0, ins_1, t_4, t_28, t_29, t_30 =>
    cond (decide (t_30 < t_29))
      (
      cond (decide ((0 : Int) ≤ t_30))
        (
        cond (decide ((Int.toNat t_30) < (List.length t_28)))
          (
          Option.bind (F_shape_Valid N (List.getD t_28 (Int.toNat t_30) (([] : List Int), false))) fun y1 =>
          cond (Bool.not (Go.Eng.Er.isNil (y1).1))
            (
            some (Sum.inr ((([] : List Int), (false, ())), y1)))
            (
            cond (decide ((List.length (t_4).1) = (List.length (t_4).1)))
              (
              (g_soft_Result_0 N n op_0 ins_1 t_4 t_28 t_29 (wi64 (t_30 + (1 : Int)))))
              (
              none)))
          (
          none))
        (
        none))
      (
      cond (decide ((List.length (t_4).1) = (List.length (t_4).1)))
        (
        some (Sum.inl (op_0, (ins_1, (t_4, ())))))
        (
        none))

def F_soft_Result (N : Nat) (op_0 : Int) (ins_1 : List ((List Int × Bool))) : Option ((List Int × Bool) × (Er × Unit)) :=
  cond (decide (op_0 = (19 : Int)))
    (
    cond (decide (@Ne Int (Nat.cast (List.length ins_1) : Int) (1 : Int)))
      (
      some ((([] : List Int), false), ((Go.Eng.Er.s ErrShape), ())))
      (
      Option.bind (g_soft_Result_0 N N op_0 ins_1 (([] : List Int), (false, ())) ins_1 (Nat.cast (List.length ins_1) : Int) (0 : Int)) fun y0 =>
      Sum.elim (fun y1 =>
        Option.bind (F_soft_looks N (y1).1 ((y1).2).1) fun y2 =>
        cond (Bool.not ((y2).2).1)
          (
          some ((([] : List Int), false), ((Go.Eng.Er.s ErrShape), ())))
          (
          cond (decide (((0 : Nat) + (List.length ((y2).1).1)) ≤ (List.length ((y2).1).1)))
            (
            Option.bind (F_shape_Valid N ((List.take (List.length ((y2).1).1) ((y2).1).1), (((y2).1).2).1)) fun y3 =>
            cond (Bool.not (Go.Eng.Er.isNil (y3).1))
              (
              some ((([] : List Int), false), y3))
              (
              cond (decide (((0 : Nat) + (List.length ((y2).1).1)) ≤ (List.length ((y2).1).1)))
                (
                some (((List.take (List.length ((y2).1).1) ((y2).1).1), (((y2).1).2).1), (Go.Eng.Er.nil, ())))
                (
                none)))
            (
            none)))
        (fun y4 =>
        cond (decide (((0 : Nat) + (List.length ((y4).1).1)) ≤ (List.length ((y4).1).1)))
          (
          some (((List.take (List.length ((y4).1).1) ((y4).1).1), (((y4).1).2).1), (y4).2))
          (
          none)) y0))
    (
    cond (decide (op_0 = (20 : Int)))
      (
      cond (decide (@Ne Int (Nat.cast (List.length ins_1) : Int) (1 : Int)))
        (
        some ((([] : List Int), false), ((Go.Eng.Er.s ErrShape), ())))
        (
        Option.bind (g_soft_Result_0 N N op_0 ins_1 (([] : List Int), (false, ())) ins_1 (Nat.cast (List.length ins_1) : Int) (0 : Int)) fun y5 =>
        Sum.elim (fun y6 =>
          Option.bind (F_soft_looks N (y6).1 ((y6).2).1) fun y7 =>
          cond (Bool.not ((y7).2).1)
            (
            some ((([] : List Int), false), ((Go.Eng.Er.s ErrShape), ())))
            (
            cond (decide (((0 : Nat) + (List.length ((y7).1).1)) ≤ (List.length ((y7).1).1)))
              (
              Option.bind (F_shape_Valid N ((List.take (List.length ((y7).1).1) ((y7).1).1), (((y7).1).2).1)) fun y8 =>
              cond (Bool.not (Go.Eng.Er.isNil (y8).1))
                (
                some ((([] : List Int), false), y8))
                (
                cond (decide (((0 : Nat) + (List.length ((y7).1).1)) ≤ (List.length ((y7).1).1)))
                  (
                  some (((List.take (List.length ((y7).1).1) ((y7).1).1), (((y7).1).2).1), (Go.Eng.Er.nil, ())))
                  (
                  none)))
              (
              none)))
          (fun y9 =>
          cond (decide (((0 : Nat) + (List.length ((y9).1).1)) ≤ (List.length ((y9).1).1)))
            (
            some (((List.take (List.length ((y9).1).1) ((y9).1).1), (((y9).1).2).1), (y9).2))
            (
            none)) y5))
      (
      cond (decide (op_0 = (16 : Int)))
        (
        cond (decide (@Ne Int (Nat.cast (List.length ins_1) : Int) (2 : Int)))
          (
          some ((([] : List Int), false), ((Go.Eng.Er.s ErrShape), ())))
          (
          Option.bind (g_soft_Result_0 N N op_0 ins_1 (([] : List Int), (false, ())) ins_1 (Nat.cast (List.length ins_1) : Int) (0 : Int)) fun y10 =>
          Sum.elim (fun y11 =>
            Option.bind (F_soft_looks N (y11).1 ((y11).2).1) fun y12 =>
            cond (Bool.not ((y12).2).1)
              (
              some ((([] : List Int), false), ((Go.Eng.Er.s ErrShape), ())))
              (
              cond (decide (((0 : Nat) + (List.length ((y12).1).1)) ≤ (List.length ((y12).1).1)))
                (
                Option.bind (F_shape_Valid N ((List.take (List.length ((y12).1).1) ((y12).1).1), (((y12).1).2).1)) fun y13 =>
                cond (Bool.not (Go.Eng.Er.isNil (y13).1))
                  (
                  some ((([] : List Int), false), y13))
                  (
                  cond (decide (((0 : Nat) + (List.length ((y12).1).1)) ≤ (List.length ((y12).1).1)))
                    (
                    some (((List.take (List.length ((y12).1).1) ((y12).1).1), (((y12).1).2).1), (Go.Eng.Er.nil, ())))
                    (
                    none)))
                (
                none)))
            (fun y14 =>
            cond (decide (((0 : Nat) + (List.length ((y14).1).1)) ≤ (List.length ((y14).1).1)))
              (
              some (((List.take (List.length ((y14).1).1) ((y14).1).1), (((y14).1).2).1), (y14).2))
              (
              none)) y10))
        (
        cond (decide (op_0 = (17 : Int)))
          (
          cond (decide (@Ne Int (Nat.cast (List.length ins_1) : Int) (2 : Int)))
            (
            some ((([] : List Int), false), ((Go.Eng.Er.s ErrShape), ())))
            (
            Option.bind (g_soft_Result_0 N N op_0 ins_1 (([] : List Int), (false, ())) ins_1 (Nat.cast (List.length ins_1) : Int) (0 : Int)) fun y15 =>
            Sum.elim (fun y16 =>
              Option.bind (F_soft_looks N (y16).1 ((y16).2).1) fun y17 =>
              cond (Bool.not ((y17).2).1)
                (
                some ((([] : List Int), false), ((Go.Eng.Er.s ErrShape), ())))
                (
                cond (decide (((0 : Nat) + (List.length ((y17).1).1)) ≤ (List.length ((y17).1).1)))
                  (
                  Option.bind (F_shape_Valid N ((List.take (List.length ((y17).1).1) ((y17).1).1), (((y17).1).2).1)) fun y18 =>
                  cond (Bool.not (Go.Eng.Er.isNil (y18).1))
                    (
                    some ((([] : List Int), false), y18))
                    (
                    cond (decide (((0 : Nat) + (List.length ((y17).1).1)) ≤ (List.length ((y17).1).1)))
                      (
                      some (((List.take (List.length ((y17).1).1) ((y17).1).1), (((y17).1).2).1), (Go.Eng.Er.nil, ())))
                      (
                      none)))
                  (
                  none)))
              (fun y19 =>
              cond (decide (((0 : Nat) + (List.length ((y19).1).1)) ≤ (List.length ((y19).1).1)))
                (
                some (((List.take (List.length ((y19).1).1) ((y19).1).1), (((y19).1).2).1), (y19).2))
                (
                none)) y15))
          (
          some ((([] : List Int), false), ((Go.Eng.Er.s ErrKind), ()))))))

abbrev c_soft_Result (N : Nat) : CallSpec := ⟨24, ps_soft_Result, rs_soft_Result, fun x => F_soft_Result N x.1 x.2.1⟩
abbrev l_soft_Result_0 (N : Nat) : LoopSpec := ⟨0, h_soft_Result_0, e_soft_Result_0, fun x => g_soft_Result_0 N N x.1 x.2.1 x.2.2.1 x.2.2.2.1 x.2.2.2.2.1 x.2.2.2.2.2.1⟩

theorem cs_soft_Result_ok (S : Nat → Addr) (N : Nat) : CallsOK Go.Proofs.Tryd.prog E S (cs_soft_Result N) :=
  .cons (F_shape_Valid_ok S N) (.cons (F_soft_looks_ok S N) (.nil))
noncomputable abbrev b_soft_Result_0 : Code := (loopsOf b_soft_Result).getD 0 .skip
theorem g_soft_Result_0_ok (S : Nat → Addr) (N : Nat) : ∀ n x y, (fun (x : Val (slotsTy h_soft_Result_0)) => g_soft_Result_0 N n x.1 x.2.1 x.2.2.1 x.2.2.2.1 x.2.2.2.2.1 x.2.2.2.2.2.1) x = some y → LoopCon Go.Proofs.Tryd.prog E S b_soft_Result_0 (encSlots h_soft_Result_0 x) (encEx e_soft_Result_0 y).1 (encEx e_soft_Result_0 y).2 :=
  loop_spec E_ok mixed (cs_soft_Result_ok S N) (all := loopsOf b_soft_Result) (ls := []) (.nil) (i := 0) (by kernel_rfl) (inner_of (by kernel_rfl)) (head := h_soft_Result_0) (ex := e_soft_Result_0) (fun n (x : Val (slotsTy h_soft_Result_0)) => g_soft_Result_0 N n x.1 x.2.1 x.2.2.1 x.2.2.2.1 x.2.2.2.2.1 x.2.2.2.2.2.1) (fun _ => rfl) (fun n x => by kernel_rfl)
theorem F_soft_Result_ok (S : Nat → Addr) (N : Nat) : ∀ x y, (c_soft_Result N).g x = some y → FCon Go.Proofs.Tryd.prog E S 24 ps_soft_Result rs_soft_Result x y := by
  intro x y h
  exact fun_spec E_ok mixed (cs_soft_Result_ok S N) (f := 24) (fi := ⟨b_soft_Result, 58, Go.Proofs.Tryd.f24.results.toList⟩) (by kernel_rfl) (ls := [l_soft_Result_0 N]) (.cons (by kernel_rfl) (g_soft_Result_0_ok S N N) (.nil)) (by kernel_rfl) (ps := ps_soft_Result) (rs := rs_soft_Result) (Eq.trans (b := F_soft_Result N x.1 x.2.1) (by kernel_rfl) h)

/-! lodge/soft.result -/

abbrev ps_soft_result : List Ty := [(.int .i64), (.sl (.st (.pair (.st (.pair (.sl (.int .i64)) .bool)) (.sl (.int .i64)))))]
abbrev rs_soft_result : List Slot := [.data (.st (.pair (.sl (.int .i64)) .bool)), .data (.sl (.st (.pair (.sl (.int .i64)) .bool))), .data .err]
abbrev cs_soft_result (N : Nat) : List CallSpec := [c_tens_Valid N, c_soft_Result N]
noncomputable abbrev b_soft_result : Code := (Go.Proofs.Tryd.f39.body).getD .skip

abbrev h_soft_result_0 : List Slot := [.data (.int .i64), .dead, .dead, .dead, .box [.sl (.int .i64), .d .bool], .dead, .dead, .sl (.st (.pair (.sl (.int .i64)) .bool)), .dead, .dead, .dead, .dead, .dead, .data (.sl (.st (.pair (.st (.pair (.sl (.int .i64)) .bool)) (.sl (.int .i64))))), .data (.int .i64), .data (.int .i64), .dead, .dead, .dead, .dead, .dead, .dead, .dead, .dead, .dead, .dead, .dead, .dead, .dead, .dead, .dead, .dead, .dead, .dead, .dead, .dead, .dead, .dead, .dead, .dead]
abbrev e_soft_result_0 : List (AX × List Slot) := [(AX.exit 0, [.data (.int .i64), .dead, .dead, .dead, .box [.sl (.int .i64), .d .bool], .dead, .dead, .sl (.st (.pair (.sl (.int .i64)) .bool)), .dead, .dead, .dead, .dead, .dead, .dead, .dead, .dead, .dead, .dead, .dead, .dead, .dead, .dead, .dead, .dead, .dead, .dead, .dead, .dead, .dead, .dead, .dead, .dead, .dead, .dead, .dead, .dead, .dead, .dead, .dead, .dead]), (AX.ret, [.dead, .dead, .dead, .dead, .box [.sl (.int .i64), .d .bool], .sl (.st (.pair (.sl (.int .i64)) .bool)), .data .err, .dead, .dead, .dead, .dead, .dead, .dead, .dead, .dead, .dead, .dead, .dead, .dead, .dead, .dead, .dead, .dead, .dead, .dead, .dead, .dead, .dead, .dead, .dead, .dead, .dead, .dead, .dead, .dead, .dead, .dead, .dead, .dead, .dead])]
def g_soft_result_0 (N : Nat) : Nat → Int → (List Int × (Bool × Unit)) → List ((List Int × Bool)) → List (((List Int × Bool) × List Int)) → Int → Int → Option (Sum (Int × ((List Int × (Bool × Unit)) × (List ((List Int × Bool)) × Unit))) ((List Int × (Bool × Unit)) × (List ((List Int × Bool)) × (Er × Unit))))
  | 0, _, _, _, _, _, _ => none
  | n + 1, op_0, t_4, descs_7, t_13, t_14, t_15 =>
    cond (decide (t_15 < t_14))
      (
      cond (decide ((0 : Int) ≤ t_15))
        (
        cond (decide ((Int.toNat t_15) < (List.length t_13)))
          (
          Option.bind (F_tens_Valid N (List.getD t_13 (Int.toNat t_15) ((([] : List Int), false), ([] : List Int)))) fun y1 =>
          cond (Bool.not (Go.Eng.Er.isNil (y1).1))
            (
            some (Sum.inr ((([] : List Int), (false, ())), (([] : List ((List Int) × Bool)), y1))))
            (
            cond (decide (((0 : Nat) + (List.length descs_7)) = (List.length descs_7)))
              (
              cond (decide ((((List.length descs_7) + 1) * (32 + (1 : Nat))) ≤ Go.Eng.most))
                (
                cond (decide ((List.length (t_4).1) = (List.length (t_4).1)))
                  (
                  cond (decide (((List.length descs_7) + 1) = (List.length ((List.take (List.length descs_7) descs_7) ++ (((List.getD t_13 (Int.toNat t_15) ((([] : List Int), false), ([] : List Int)))).1 :: ([] : List ((List Int) × Bool)))))))
                    (
                    (g_soft_result_0 N n op_0 t_4 ((List.take (List.length descs_7) descs_7) ++ (((List.getD t_13 (Int.toNat t_15) ((([] : List Int), false), ([] : List Int)))).1 :: ([] : List ((List Int) × Bool)))) t_13 t_14 (wi64 (t_15 + (1 : Int)))))
                    (
                    none))
                  (
                  none))
                (
                none))
              (
              none)))
          (
          none))
        (
        none))
      (
      cond (decide ((List.length (t_4).1) = (List.length (t_4).1)))
        (
        cond (decide ((List.length descs_7) = (List.length descs_7)))
          (
          some (Sum.inl (op_0, (t_4, (descs_7, ())))))
          (
          none))
        (
        none))

def F_soft_result (N : Nat) (op_0 : Int) (ins_1 : List (((List Int × Bool) × List Int))) : Option ((List Int × Bool) × (List ((List Int × Bool)) × (Er × Unit))) :=
  Option.bind (g_soft_result_0 N N op_0 (([] : List Int), (false, ())) ([] : List ((List Int) × Bool)) ins_1 (Nat.cast (List.length ins_1) : Int) (0 : Int)) fun y0 =>
  Sum.elim (fun y1 =>
    cond (decide (((0 : Nat) + (List.length (((y1).2).2).1)) ≤ (List.length (((y1).2).2).1)))
      (
      Option.bind (F_soft_Result N (y1).1 (List.take (List.length (((y1).2).2).1) (((y1).2).2).1)) fun y2 =>
      cond (decide (((0 : Nat) + (List.length (((y1).2).2).1)) ≤ (List.length (((y1).2).2).1)))
        (
        some ((y2).1, ((List.take (List.length (((y1).2).2).1) (((y1).2).2).1), (y2).2)))
        (
        none))
      (
      none))
    (fun y3 =>
    cond (decide (((0 : Nat) + (List.length ((y3).1).1)) ≤ (List.length ((y3).1).1)))
      (
      cond (decide (((0 : Nat) + (List.length ((y3).2).1)) ≤ (List.length ((y3).2).1)))
        (
        some (((List.take (List.length ((y3).1).1) ((y3).1).1), (((y3).1).2).1), ((List.take (List.length ((y3).2).1) ((y3).2).1), ((y3).2).2)))
        (
        none))
      (
      none)) y0

abbrev c_soft_result (N : Nat) : CallSpec := ⟨39, ps_soft_result, rs_soft_result, fun x => F_soft_result N x.1 x.2.1⟩
abbrev l_soft_result_0 (N : Nat) : LoopSpec := ⟨0, h_soft_result_0, e_soft_result_0, fun x => g_soft_result_0 N N x.1 x.2.1 x.2.2.1 x.2.2.2.1 x.2.2.2.2.1 x.2.2.2.2.2.1⟩

theorem cs_soft_result_ok (S : Nat → Addr) (N : Nat) : CallsOK Go.Proofs.Tryd.prog E S (cs_soft_result N) :=
  .cons (F_tens_Valid_ok S N) (.cons (F_soft_Result_ok S N) (.nil))
noncomputable abbrev b_soft_result_0 : Code := (loopsOf b_soft_result).getD 0 .skip
theorem g_soft_result_0_ok (S : Nat → Addr) (N : Nat) : ∀ n x y, (fun (x : Val (slotsTy h_soft_result_0)) => g_soft_result_0 N n x.1 x.2.1 x.2.2.1 x.2.2.2.1 x.2.2.2.2.1 x.2.2.2.2.2.1) x = some y → LoopCon Go.Proofs.Tryd.prog E S b_soft_result_0 (encSlots h_soft_result_0 x) (encEx e_soft_result_0 y).1 (encEx e_soft_result_0 y).2 :=
  loop_spec E_ok mixed (cs_soft_result_ok S N) (all := loopsOf b_soft_result) (ls := []) (.nil) (i := 0) (by kernel_rfl) (inner_of (by kernel_rfl)) (head := h_soft_result_0) (ex := e_soft_result_0) (fun n (x : Val (slotsTy h_soft_result_0)) => g_soft_result_0 N n x.1 x.2.1 x.2.2.1 x.2.2.2.1 x.2.2.2.2.1 x.2.2.2.2.2.1) (fun _ => rfl) (fun n x => by kernel_rfl)
theorem F_soft_result_ok (S : Nat → Addr) (N : Nat) : ∀ x y, (c_soft_result N).g x = some y → FCon Go.Proofs.Tryd.prog E S 39 ps_soft_result rs_soft_result x y := by
  intro x y h
  exact fun_spec E_ok mixed (cs_soft_result_ok S N) (f := 39) (fi := ⟨b_soft_result, 40, Go.Proofs.Tryd.f39.results.toList⟩) (by kernel_rfl) (ls := [l_soft_result_0 N]) (.cons (by kernel_rfl) (g_soft_result_0_ok S N N) (.nil)) (by kernel_rfl) (ps := ps_soft_result) (rs := rs_soft_result) (Eq.trans (b := F_soft_result N x.1 x.2.1) (by kernel_rfl) h)

/-! lodge/soft.reads$1 -/

abbrev ps_soft_reads_1 : List Ty := [(.int .i64), (.ref (.st (.pair (.st (.pair (.sl (.int .i64)) .bool)) (.sl (.int .i64)))))]
abbrev rs_soft_reads_1 : List Slot := [.data (.int .i64)]
abbrev cs_soft_reads_1 (N : Nat) : List CallSpec := []
noncomputable abbrev b_soft_reads_1 : Code := (Go.Proofs.Tryd.f72.body).getD .skip

def F_soft_reads_1 (N : Nat) (i_0 : Int) (t_1 : ((List Int × Bool) × List Int)) : Option (Int × Unit) :=
  cond (decide ((0 : Int) ≤ i_0))
    (
    cond (decide ((Int.toNat i_0) < (List.length (t_1).2)))
      (
      some ((List.getD (t_1).2 (Int.toNat i_0) (0 : Int)), ()))
      (
      none))
    (
    none)

abbrev c_soft_reads_1 (N : Nat) : CallSpec := ⟨72, ps_soft_reads_1, rs_soft_reads_1, fun x => F_soft_reads_1 N x.1 x.2.1⟩

theorem cs_soft_reads_1_ok (S : Nat → Addr) (N : Nat) : CallsOK Go.Proofs.Tryd.prog E S (cs_soft_reads_1 N) :=
  .nil
theorem F_soft_reads_1_ok (S : Nat → Addr) (N : Nat) : ∀ x y, (c_soft_reads_1 N).g x = some y → FCon Go.Proofs.Tryd.prog E S 72 ps_soft_reads_1 rs_soft_reads_1 x y := by
  intro x y h
  exact fun_spec E_ok mixed (cs_soft_reads_1_ok S N) (f := 72) (fi := ⟨b_soft_reads_1, 9, Go.Proofs.Tryd.f72.results.toList⟩) (by kernel_rfl) (ls := []) (.nil) (by kernel_rfl) (ps := ps_soft_reads_1) (rs := rs_soft_reads_1) (Eq.trans (b := F_soft_reads_1 N x.1 x.2.1) (by kernel_rfl) h)

/-! lodge/soft.reads -/

abbrev ps_soft_reads : List Ty := [(.sl (.st (.pair (.st (.pair (.sl (.int .i64)) .bool)) (.sl (.int .i64)))))]
abbrev rs_soft_reads : List Slot := [.sl (.clo 72 (.ref (.st (.pair (.st (.pair (.sl (.int .i64)) .bool)) (.sl (.int .i64))))))]
abbrev cs_soft_reads (N : Nat) : List CallSpec := [c_soft_reads_1 N]
noncomputable abbrev b_soft_reads : Code := (Go.Proofs.Tryd.f42.body).getD .skip

abbrev h_soft_reads_0 : List Slot := [.dead, .dead, .dead, .sl (.clo 72 (.ref (.st (.pair (.st (.pair (.sl (.int .i64)) .bool)) (.sl (.int .i64)))))), .dead, .dead, .data (.sl (.st (.pair (.st (.pair (.sl (.int .i64)) .bool)) (.sl (.int .i64))))), .data (.int .i64), .data (.int .i64), .dead, .dead, .dead, .dead, .dead, .dead, .dead, .dead, .dead]
abbrev e_soft_reads_0 : List (AX × List Slot) := [(AX.exit 0, [.dead, .dead, .dead, .sl (.clo 72 (.ref (.st (.pair (.st (.pair (.sl (.int .i64)) .bool)) (.sl (.int .i64)))))), .dead, .dead, .dead, .dead, .dead, .dead, .dead, .dead, .dead, .dead, .dead, .dead, .dead, .dead])]
def g_soft_reads_0 (N : Nat) : Nat → List ((List Int × Bool) × List Int) → List (((List Int × Bool) × List Int)) → Int → Int → Option (List ((List Int × Bool) × List Int) × Unit)
  | 0, _, _, _, _ => none
  | n + 1, l_3, t_6, t_7, t_8 =>
    cond (decide (t_8 < t_7))
      (
      cond (decide ((0 : Int) ≤ t_8))
        (
        cond (decide ((Int.toNat t_8) < (List.length t_6)))
          (
          cond (decide (((0 : Nat) + (List.length l_3)) = (List.length l_3)))
            (
            cond (decide ((((List.length l_3) + 1) * (8 + (1 : Nat))) ≤ Go.Eng.most))
              (
              cond (decide (((List.length l_3) + 1) = (List.length ((List.take (List.length l_3) l_3) ++ ((List.getD t_6 (Int.toNat t_8) ((([] : List Int), false), ([] : List Int))) :: ([] : List (((List Int) × Bool) × (List Int))))))))
                (
                (g_soft_reads_0 N n ((List.take (List.length l_3) l_3) ++ ((List.getD t_6 (Int.toNat t_8) ((([] : List Int), false), ([] : List Int))) :: ([] : List (((List Int) × Bool) × (List Int))))) t_6 t_7 (wi64 (t_8 + (1 : Int)))))
                (
                none))
              (
              none))
            (
            none))
          (
          none))
        (
        none))
      (
      cond (decide ((List.length l_3) = (List.length l_3)))
        (
        some (l_3, ()))
        (
        none))

def F_soft_reads (N : Nat) (ins_0 : List (((List Int × Bool) × List Int))) : Option (List ((List Int × Bool) × List Int) × Unit) :=
  Option.bind (g_soft_reads_0 N N ([] : List (((List Int) × Bool) × (List Int))) ins_0 (Nat.cast (List.length ins_0) : Int) (0 : Int)) fun y0 =>
  cond (decide ((List.length (y0).1) = (List.length (y0).1)))
    (
    some y0)
    (
    none)

abbrev c_soft_reads (N : Nat) : CallSpec := ⟨42, ps_soft_reads, rs_soft_reads, fun x => F_soft_reads N x.1⟩
abbrev l_soft_reads_0 (N : Nat) : LoopSpec := ⟨0, h_soft_reads_0, e_soft_reads_0, fun x => g_soft_reads_0 N N x.1 x.2.1 x.2.2.1 x.2.2.2.1⟩

theorem cs_soft_reads_ok (S : Nat → Addr) (N : Nat) : CallsOK Go.Proofs.Tryd.prog E S (cs_soft_reads N) :=
  .cons (F_soft_reads_1_ok S N) (.nil)
noncomputable abbrev b_soft_reads_0 : Code := (loopsOf b_soft_reads).getD 0 .skip
theorem g_soft_reads_0_ok (S : Nat → Addr) (N : Nat) : ∀ n x y, (fun (x : Val (slotsTy h_soft_reads_0)) => g_soft_reads_0 N n x.1 x.2.1 x.2.2.1 x.2.2.2.1) x = some y → LoopCon Go.Proofs.Tryd.prog E S b_soft_reads_0 (encSlots h_soft_reads_0 x) (encEx e_soft_reads_0 y).1 (encEx e_soft_reads_0 y).2 :=
  loop_spec E_ok mixed (cs_soft_reads_ok S N) (all := loopsOf b_soft_reads) (ls := []) (.nil) (i := 0) (by kernel_rfl) (inner_of (by kernel_rfl)) (head := h_soft_reads_0) (ex := e_soft_reads_0) (fun n (x : Val (slotsTy h_soft_reads_0)) => g_soft_reads_0 N n x.1 x.2.1 x.2.2.1 x.2.2.2.1) (fun _ => rfl) (fun n x => by kernel_rfl)
theorem F_soft_reads_ok (S : Nat → Addr) (N : Nat) : ∀ x y, (c_soft_reads N).g x = some y → FCon Go.Proofs.Tryd.prog E S 42 ps_soft_reads rs_soft_reads x y := by
  intro x y h
  exact fun_spec E_ok mixed (cs_soft_reads_ok S N) (f := 42) (fi := ⟨b_soft_reads, 18, Go.Proofs.Tryd.f42.results.toList⟩) (by kernel_rfl) (ls := [l_soft_reads_0 N]) (.cons (by kernel_rfl) (g_soft_reads_0_ok S N N) (.nil)) (by kernel_rfl) (ps := ps_soft_reads) (rs := rs_soft_reads) (Eq.trans (b := F_soft_reads N x.1) (by kernel_rfl) h)

/-! lodge/soft.softmax$1 -/

abbrev ps_soft_softmax_c1 : List Ty := [(.int .i64), (.ref (.clo 72 (.ref (.st (.pair (.st (.pair (.sl (.int .i64)) .bool)) (.sl (.int .i64))))))), (.ref (.int .i64))]
abbrev rs_soft_softmax_c1 : List Slot := [.data (.int .i64)]
abbrev cs_soft_softmax_c1 (N : Nat) : List CallSpec := [c_soft_reads_1 N]
noncomputable abbrev b_soft_softmax_c1 : Code := (Go.Proofs.Tryd.f97.body).getD .skip

def F_soft_softmax_c1 (N : Nat) (x_0 : Int) (t_1 : ((List Int × Bool) × List Int)) (t_2 : Int) : Option (Int × Unit) :=
  Option.bind (F_soft_reads_1 N (wi64 (t_2 - x_0)) t_1) fun y0 =>
  some ((Go.Eng.imax (y0).1 (0 : Int)), ())

abbrev c_soft_softmax_c1 (N : Nat) : CallSpec := ⟨97, ps_soft_softmax_c1, rs_soft_softmax_c1, fun x => F_soft_softmax_c1 N x.1 x.2.1 x.2.2.1⟩

theorem cs_soft_softmax_c1_ok (S : Nat → Addr) (N : Nat) : CallsOK Go.Proofs.Tryd.prog E S (cs_soft_softmax_c1 N) :=
  .cons (F_soft_reads_1_ok S N) (.nil)
theorem F_soft_softmax_c1_ok (S : Nat → Addr) (N : Nat) : ∀ x y, (c_soft_softmax_c1 N).g x = some y → FCon Go.Proofs.Tryd.prog E S 97 ps_soft_softmax_c1 rs_soft_softmax_c1 x y := by
  intro x y h
  exact fun_spec E_ok mixed (cs_soft_softmax_c1_ok S N) (f := 97) (fi := ⟨b_soft_softmax_c1, 11, Go.Proofs.Tryd.f97.results.toList⟩) (by kernel_rfl) (ls := []) (.nil) (by kernel_rfl) (ps := ps_soft_softmax_c1) (rs := rs_soft_softmax_c1) (Eq.trans (b := F_soft_softmax_c1 N x.1 x.2.1 x.2.2.1) (by kernel_rfl) h)

/-! lodge/soft.softmax -/

abbrev ps_soft_softmax : List Ty := [(.clo 72 (.ref (.st (.pair (.st (.pair (.sl (.int .i64)) .bool)) (.sl (.int .i64)))))), (.clo 72 (.ref (.st (.pair (.st (.pair (.sl (.int .i64)) .bool)) (.sl (.int .i64)))))), (.int .i64), (.int .i64)]
abbrev rs_soft_softmax : List Slot := [.data (.int .i64)]
abbrev cs_soft_softmax (N : Nat) : List CallSpec := [c_soft_reads_1 N, c_soft_softmax_c1 N]
noncomputable abbrev b_soft_softmax : Code := (Go.Proofs.Tryd.f71.body).getD .skip

abbrev h_soft_softmax_0 : List Slot := [.data (.clo 72 (.ref (.st (.pair (.st (.pair (.sl (.int .i64)) .bool)) (.sl (.int .i64)))))), .dead, .data (.int .i64), .data (.int .i64), .dead, .box [.d (.clo 72 (.ref (.st (.pair (.st (.pair (.sl (.int .i64)) .bool)) (.sl (.int .i64))))))], .dead, .dead, .dead, .data (.int .i64), .box [.d (.int .i64)], .dead, .dead, .dead, .dead, .dead, .dead, .dead, .dead, .dead, .dead, .dead, .dead, .data (.int .i64), .data (.int .i64), .dead, .dead, .dead, .dead, .dead, .dead, .dead, .dead, .dead, .dead, .dead, .dead, .dead, .dead, .dead, .dead, .dead, .dead, .dead, .dead, .dead, .dead, .dead, .dead, .dead, .dead, .dead, .dead, .dead, .dead, .dead, .dead, .dead, .dead, .dead, .dead, .dead, .dead, .dead]
abbrev e_soft_softmax_0 : List (AX × List Slot) := [(AX.exit 0, [.data (.clo 72 (.ref (.st (.pair (.st (.pair (.sl (.int .i64)) .bool)) (.sl (.int .i64)))))), .dead, .data (.int .i64), .data (.int .i64), .dead, .box [.d (.clo 72 (.ref (.st (.pair (.st (.pair (.sl (.int .i64)) .bool)) (.sl (.int .i64))))))], .dead, .dead, .dead, .data (.int .i64), .box [.d (.int .i64)], .dead, .dead, .dead, .dead, .dead, .dead, .dead, .dead, .dead, .dead, .dead, .dead, .dead, .dead, .dead, .dead, .dead, .dead, .dead, .dead, .dead, .dead, .dead, .dead, .dead, .dead, .dead, .dead, .dead, .dead, .dead, .dead, .dead, .dead, .dead, .dead, .dead, .dead, .dead, .dead, .dead, .dead, .dead, .dead, .dead, .dead, .dead, .dead, .dead, .dead, .dead, .dead, .dead])]
def g_soft_softmax_0 (N : Nat) : Nat → ((List Int × Bool) × List Int) → Int → Int → (((List Int × Bool) × List Int) × Unit) → Int → (Int × Unit) → Int → Int → Option (((List Int × Bool) × List Int) × (Int × (Int × ((((List Int × Bool) × List Int) × Unit) × (Int × ((Int × Unit) × Unit))))))
  | 0, _, _, _, _, _, _, _, _ => none
  | n + 1, a_0, i_2, n_3, t_5, row_9, m_10, t_23, t_24 =>
    cond (decide (t_24 < t_23))
      (
      Option.bind (F_soft_reads_1 N (wi64 (row_9 + t_24)) a_0) fun y2 =>
      (g_soft_softmax_0 N n a_0 i_2 n_3 t_5 row_9 ((Go.Eng.imax (m_10).1 (y2).1), ()) t_23 (wi64 (t_24 + (1 : Int)))))
      (
      some (a_0, (i_2, (n_3, (t_5, (row_9, (m_10, ())))))))

abbrev h_soft_softmax_1 : List Slot := [.data (.clo 72 (.ref (.st (.pair (.st (.pair (.sl (.int .i64)) .bool)) (.sl (.int .i64)))))), .dead, .data (.int .i64), .dead, .dead, .dead, .dead, .dead, .dead, .data (.int .i64), .dead, .dead, .data (.clo 97 (.pair (.ref (.clo 72 (.ref (.st (.pair (.st (.pair (.sl (.int .i64)) .bool)) (.sl (.int .i64))))))) (.ref (.int .i64)))), .data (.int .i64), .dead, .dead, .dead, .dead, .dead, .dead, .dead, .dead, .dead, .dead, .dead, .dead, .dead, .dead, .dead, .dead, .dead, .dead, .dead, .dead, .dead, .dead, .data (.int .i64), .data (.int .i64), .dead, .dead, .dead, .dead, .dead, .dead, .dead, .dead, .dead, .dead, .dead, .dead, .dead, .dead, .dead, .dead, .dead, .dead, .dead, .dead, .dead, .dead, .dead, .dead, .dead, .dead]
abbrev e_soft_softmax_1 : List (AX × List Slot) := [(AX.exit 2, [.data (.clo 72 (.ref (.st (.pair (.st (.pair (.sl (.int .i64)) .bool)) (.sl (.int .i64)))))), .dead, .data (.int .i64), .dead, .dead, .dead, .dead, .dead, .dead, .dead, .dead, .dead, .data (.clo 97 (.pair (.ref (.clo 72 (.ref (.st (.pair (.st (.pair (.sl (.int .i64)) .bool)) (.sl (.int .i64))))))) (.ref (.int .i64)))), .data (.int .i64), .dead, .dead, .dead, .dead, .dead, .dead, .dead, .dead, .dead, .dead, .dead, .dead, .dead, .dead, .dead, .dead, .dead, .dead, .dead, .dead, .dead, .dead, .dead, .dead, .dead, .dead, .dead, .dead, .dead, .dead, .dead, .dead, .dead, .dead, .dead, .dead, .dead, .dead, .dead, .dead, .dead, .dead, .dead, .dead, .dead, .dead, .dead, .dead, .dead, .dead])]
def g_soft_softmax_1 (N : Nat) : Nat → ((List Int × Bool) × List Int) → Int → Int → (((List Int × Bool) × List Int) × Int) → Int → Int → Int → Option (((List Int × Bool) × List Int) × (Int × ((((List Int × Bool) × List Int) × Int) × (Int × Unit))))
  | 0, _, _, _, _, _, _, _ => none
  | n + 1, a_0, i_2, row_9, w_12, s_13, t_36, t_37 =>
    cond (decide (t_37 < t_36))
      (
      Option.bind (F_soft_reads_1 N (wi64 (row_9 + t_37)) a_0) fun y6 =>
      Option.bind (F_soft_softmax_c1 N (y6).1 (w_12).1 (w_12).2) fun y7 =>
      (g_soft_softmax_1 N n a_0 i_2 row_9 w_12 (wi64 (s_13 + (y7).1)) t_36 (wi64 (t_37 + (1 : Int)))))
      (
      some (a_0, (i_2, (w_12, (s_13, ())))))

def F_soft_softmax (N : Nat) (a_0 : ((List Int × Bool) × List Int)) (t_1 : ((List Int × Bool) × List Int)) (i_2 : Int) (n_3 : Int) : Option (Int × Unit) :=
  cond (decide (@Ne Int n_3 (0 : Int)))
    (
    Option.bind (F_soft_reads_1 N (wi64 ((wi64 (Int.tdiv i_2 n_3)) * n_3)) a_0) fun y0 =>
    Option.bind (g_soft_softmax_0 N N a_0 i_2 n_3 (t_1, ()) (wi64 ((wi64 (Int.tdiv i_2 n_3)) * n_3)) y0 n_3 (0 : Int)) fun y1 =>
    Option.bind (g_soft_softmax_1 N N (y1).1 ((y1).2).1 (((((y1).2).2).2).2).1 ((((((y1).2).2).2).1).1, (((((((y1).2).2).2).2).2).1).1) (0 : Int) (((y1).2).2).1 (0 : Int)) fun y2 =>
    cond (decide (((((y2).2).2).2).1 = (0 : Int)))
      (
      some ((-(128 : Int)), ()))
      (
      Option.bind (F_soft_reads_1 N ((y2).2).1 (y2).1) fun y3 =>
      Option.bind (F_soft_softmax_c1 N (y3).1 ((((y2).2).2).1).1 ((((y2).2).2).1).2) fun y4 =>
      cond (decide (@Ne Int ((((y2).2).2).2).1 (0 : Int)))
        (
        some ((wi64 ((wi64 (Int.tdiv (wi64 ((wi64 ((255 : Int) * (y4).1)) + (wi64 (Int.tdiv ((((y2).2).2).2).1 (2 : Int))))) ((((y2).2).2).2).1)) + (-(128 : Int)))), ()))
        (
        none)))
    (
    none)

abbrev c_soft_softmax (N : Nat) : CallSpec := ⟨71, ps_soft_softmax, rs_soft_softmax, fun x => F_soft_softmax N x.1 x.2.1 x.2.2.1 x.2.2.2.1⟩
abbrev l_soft_softmax_1 (N : Nat) : LoopSpec := ⟨1, h_soft_softmax_1, e_soft_softmax_1, fun x => g_soft_softmax_1 N N x.1 x.2.1 x.2.2.1 x.2.2.2.1 x.2.2.2.2.1 x.2.2.2.2.2.1 x.2.2.2.2.2.2.1⟩
abbrev l_soft_softmax_0 (N : Nat) : LoopSpec := ⟨0, h_soft_softmax_0, e_soft_softmax_0, fun x => g_soft_softmax_0 N N x.1 x.2.1 x.2.2.1 x.2.2.2.1 x.2.2.2.2.1 x.2.2.2.2.2.1 x.2.2.2.2.2.2.1 x.2.2.2.2.2.2.2.1⟩

theorem cs_soft_softmax_ok (S : Nat → Addr) (N : Nat) : CallsOK Go.Proofs.Tryd.prog E S (cs_soft_softmax N) :=
  .cons (F_soft_reads_1_ok S N) (.cons (F_soft_softmax_c1_ok S N) (.nil))
noncomputable abbrev b_soft_softmax_1 : Code := (loopsOf b_soft_softmax).getD 1 .skip
theorem g_soft_softmax_1_ok (S : Nat → Addr) (N : Nat) : ∀ n x y, (fun (x : Val (slotsTy h_soft_softmax_1)) => g_soft_softmax_1 N n x.1 x.2.1 x.2.2.1 x.2.2.2.1 x.2.2.2.2.1 x.2.2.2.2.2.1 x.2.2.2.2.2.2.1) x = some y → LoopCon Go.Proofs.Tryd.prog E S b_soft_softmax_1 (encSlots h_soft_softmax_1 x) (encEx e_soft_softmax_1 y).1 (encEx e_soft_softmax_1 y).2 :=
  loop_spec E_ok mixed (cs_soft_softmax_ok S N) (all := loopsOf b_soft_softmax) (ls := []) (.nil) (i := 1) (by kernel_rfl) (inner_of (by kernel_rfl)) (head := h_soft_softmax_1) (ex := e_soft_softmax_1) (fun n (x : Val (slotsTy h_soft_softmax_1)) => g_soft_softmax_1 N n x.1 x.2.1 x.2.2.1 x.2.2.2.1 x.2.2.2.2.1 x.2.2.2.2.2.1 x.2.2.2.2.2.2.1) (fun _ => rfl) (fun n x => by kernel_rfl)
noncomputable abbrev b_soft_softmax_0 : Code := (loopsOf b_soft_softmax).getD 0 .skip
theorem g_soft_softmax_0_ok (S : Nat → Addr) (N : Nat) : ∀ n x y, (fun (x : Val (slotsTy h_soft_softmax_0)) => g_soft_softmax_0 N n x.1 x.2.1 x.2.2.1 x.2.2.2.1 x.2.2.2.2.1 x.2.2.2.2.2.1 x.2.2.2.2.2.2.1 x.2.2.2.2.2.2.2.1) x = some y → LoopCon Go.Proofs.Tryd.prog E S b_soft_softmax_0 (encSlots h_soft_softmax_0 x) (encEx e_soft_softmax_0 y).1 (encEx e_soft_softmax_0 y).2 :=
  loop_spec E_ok mixed (cs_soft_softmax_ok S N) (all := loopsOf b_soft_softmax) (ls := []) (.nil) (i := 0) (by kernel_rfl) (inner_of (by kernel_rfl)) (head := h_soft_softmax_0) (ex := e_soft_softmax_0) (fun n (x : Val (slotsTy h_soft_softmax_0)) => g_soft_softmax_0 N n x.1 x.2.1 x.2.2.1 x.2.2.2.1 x.2.2.2.2.1 x.2.2.2.2.2.1 x.2.2.2.2.2.2.1 x.2.2.2.2.2.2.2.1) (fun _ => rfl) (fun n x => by kernel_rfl)
theorem F_soft_softmax_ok (S : Nat → Addr) (N : Nat) : ∀ x y, (c_soft_softmax N).g x = some y → FCon Go.Proofs.Tryd.prog E S 71 ps_soft_softmax rs_soft_softmax x y := by
  intro x y h
  exact fun_spec E_ok mixed (cs_soft_softmax_ok S N) (f := 71) (fi := ⟨b_soft_softmax, 64, Go.Proofs.Tryd.f71.results.toList⟩) (by kernel_rfl) (ls := [l_soft_softmax_1 N, l_soft_softmax_0 N]) (.cons (by kernel_rfl) (g_soft_softmax_1_ok S N N) (.cons (by kernel_rfl) (g_soft_softmax_0_ok S N N) (.nil))) (by kernel_rfl) (ps := ps_soft_softmax) (rs := rs_soft_softmax) (Eq.trans (b := F_soft_softmax N x.1 x.2.1 x.2.2.1 x.2.2.2.1) (by kernel_rfl) h)

/-! lodge/tens.Wide -/

abbrev ps_tens_Wide : List Ty := [(.int .i64)]
abbrev rs_tens_Wide : List Slot := [.data (.int .i64)]
abbrev cs_tens_Wide (N : Nat) : List CallSpec := []
noncomputable abbrev b_tens_Wide : Code := (Go.Proofs.Tryd.f58.body).getD .skip

def F_tens_Wide (N : Nat) (n_0 : Int) : Option (Int × Unit) :=
  some ((wi64 (wi32 (wu32 (wu64 n_0)))), ())

abbrev c_tens_Wide (N : Nat) : CallSpec := ⟨58, ps_tens_Wide, rs_tens_Wide, fun x => F_tens_Wide N x.1⟩

theorem cs_tens_Wide_ok (S : Nat → Addr) (N : Nat) : CallsOK Go.Proofs.Tryd.prog E S (cs_tens_Wide N) :=
  .nil
theorem F_tens_Wide_ok (S : Nat → Addr) (N : Nat) : ∀ x y, (c_tens_Wide N).g x = some y → FCon Go.Proofs.Tryd.prog E S 58 ps_tens_Wide rs_tens_Wide x y := by
  intro x y h
  exact fun_spec E_ok mixed (cs_tens_Wide_ok S N) (f := 58) (fi := ⟨b_tens_Wide, 8, Go.Proofs.Tryd.f58.results.toList⟩) (by kernel_rfl) (ls := []) (.nil) (by kernel_rfl) (ps := ps_tens_Wide) (rs := rs_tens_Wide) (Eq.trans (b := F_tens_Wide N x.1) (by kernel_rfl) h)


end Go.Proofs.YtohkmbpdjigjdaaDoor.Lg
