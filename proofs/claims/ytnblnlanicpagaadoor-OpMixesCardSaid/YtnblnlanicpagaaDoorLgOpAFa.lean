/-
  The functions of the seat's program, as plain functions.
-/
import Derived.Test.YtnblnlanicpagaaDoorLgOpAE
namespace Go.Proofs.YtnblnlanicpagaaDoor.Lg
open Go Go.Eng Go.Proofs
set_option maxRecDepth 100000

/-! lodge/op.Known -/

abbrev ps_op_Known : List Ty := [(.int .i64)]
abbrev rs_op_Known : List Slot := [.data .bool]
abbrev cs_op_Known (N : Nat) : List CallSpec := []
noncomputable abbrev b_op_Known : Code := (Go.Proofs.Tryd.f20.body).getD .skip

def F_op_Known (N : Nat) (op_0 : Int) : Option (Bool × Unit) :=
  cond (decide ((4 : Int) ≤ op_0))
    (
    some ((decide (op_0 ≤ (21 : Int))), ()))
    (
    some (false, ()))

abbrev c_op_Known (N : Nat) : CallSpec := ⟨20, ps_op_Known, rs_op_Known, fun x => F_op_Known N x.1⟩

theorem cs_op_Known_ok (S : Nat → Addr) (N : Nat) : CallsOK Go.Proofs.Tryd.prog E S (cs_op_Known N) :=
  .nil
theorem F_op_Known_ok (S : Nat → Addr) (N : Nat) : ∀ x y, (c_op_Known N).g x = some y → FCon Go.Proofs.Tryd.prog E S 20 ps_op_Known rs_op_Known x y := by
  intro x y h
  exact fun_spec E_ok mixed (cs_op_Known_ok S N) (f := 20) (fi := ⟨b_op_Known, 9, Go.Proofs.Tryd.f20.results.toList⟩) (by kernel_rfl) (ls := []) (.nil) (by kernel_rfl) (ps := ps_op_Known) (rs := rs_op_Known) (Eq.trans (b := F_op_Known N x.1) (by kernel_rfl) h)

/-! lodge/op.Ins -/

abbrev ps_op_Ins : List Ty := [(.int .i64)]
abbrev rs_op_Ins : List Slot := [.data (.int .i64)]
abbrev cs_op_Ins (N : Nat) : List CallSpec := [c_op_Known N]
noncomputable abbrev b_op_Ins : Code := (Go.Proofs.Tryd.f21.body).getD .skip

def F_op_Ins (N : Nat) (op_0 : Int) : Option (Int × Unit) :=
  cond (decide (op_0 = (4 : Int)))
    (
    some ((2 : Int), ()))
    (
    cond (decide (op_0 = (5 : Int)))
      (
      some ((2 : Int), ()))
      (
      cond (decide (op_0 = (6 : Int)))
        (
        some ((2 : Int), ()))
        (
        cond (decide (op_0 = (7 : Int)))
          (
          some ((2 : Int), ()))
          (
          cond (decide (op_0 = (12 : Int)))
            (
            some ((2 : Int), ()))
            (
            cond (decide (op_0 = (13 : Int)))
              (
              some ((2 : Int), ()))
              (
              cond (decide (op_0 = (16 : Int)))
                (
                some ((2 : Int), ()))
                (
                cond (decide (op_0 = (17 : Int)))
                  (
                  some ((2 : Int), ()))
                  (
                  Option.bind (F_op_Known N op_0) fun y0 =>
                  cond (y0).1
                    (
                    some ((1 : Int), ()))
                    (
                    some ((0 : Int), ()))))))))))

abbrev c_op_Ins (N : Nat) : CallSpec := ⟨21, ps_op_Ins, rs_op_Ins, fun x => F_op_Ins N x.1⟩

theorem cs_op_Ins_ok (S : Nat → Addr) (N : Nat) : CallsOK Go.Proofs.Tryd.prog E S (cs_op_Ins N) :=
  .cons (F_op_Known_ok S N) (.nil)
theorem F_op_Ins_ok (S : Nat → Addr) (N : Nat) : ∀ x y, (c_op_Ins N).g x = some y → FCon Go.Proofs.Tryd.prog E S 21 ps_op_Ins rs_op_Ins x y := by
  intro x y h
  exact fun_spec E_ok mixed (cs_op_Ins_ok S N) (f := 21) (fi := ⟨b_op_Ins, 15, Go.Proofs.Tryd.f21.results.toList⟩) (by kernel_rfl) (ls := []) (.nil) (by kernel_rfl) (ps := ps_op_Ins) (rs := rs_op_Ins) (Eq.trans (b := F_op_Ins N x.1) (by kernel_rfl) h)

/-! lodge/op.Args -/

abbrev ps_op_Args : List Ty := [(.int .i64)]
abbrev rs_op_Args : List Slot := [.data (.int .i64)]
abbrev cs_op_Args (N : Nat) : List CallSpec := []
noncomputable abbrev b_op_Args : Code := (Go.Proofs.Tryd.f30.body).getD .skip

def F_op_Args (N : Nat) (op_0 : Int) : Option (Int × Unit) :=
  cond (decide (op_0 = (9 : Int)))
    (
    some ((2 : Int), ()))
    (
    cond (decide (op_0 = (12 : Int)))
      (
      some ((2 : Int), ()))
      (
      cond (decide (op_0 = (14 : Int)))
        (
        some ((2 : Int), ()))
        (
        cond (decide (op_0 = (15 : Int)))
          (
          some ((2 : Int), ()))
          (
          cond (decide (op_0 = (10 : Int)))
            (
            some ((3 : Int), ()))
            (
            cond (decide (op_0 = (13 : Int)))
              (
              some ((3 : Int), ()))
              (
              cond (decide (op_0 = (11 : Int)))
                (
                some ((1 : Int), ()))
                (
                some ((0 : Int), ()))))))))

abbrev c_op_Args (N : Nat) : CallSpec := ⟨30, ps_op_Args, rs_op_Args, fun x => F_op_Args N x.1⟩

theorem cs_op_Args_ok (S : Nat → Addr) (N : Nat) : CallsOK Go.Proofs.Tryd.prog E S (cs_op_Args N) :=
  .nil
theorem F_op_Args_ok (S : Nat → Addr) (N : Nat) : ∀ x y, (c_op_Args N).g x = some y → FCon Go.Proofs.Tryd.prog E S 30 ps_op_Args rs_op_Args x y := by
  intro x y h
  exact fun_spec E_ok mixed (cs_op_Args_ok S N) (f := 30) (fi := ⟨b_op_Args, 14, Go.Proofs.Tryd.f30.results.toList⟩) (by kernel_rfl) (ls := []) (.nil) (by kernel_rfl) (ps := ps_op_Args) (rs := rs_op_Args) (Eq.trans (b := F_op_Args N x.1) (by kernel_rfl) h)

/-! lodge/shape.Valid -/

abbrev ps_shape_Valid : List Ty := [(.st (.pair (.sl (.int .i64)) .bool))]
abbrev rs_shape_Valid : List Slot := [.data .err]
abbrev cs_shape_Valid (N : Nat) : List CallSpec := []
noncomputable abbrev b_shape_Valid : Code := (Go.Proofs.Tryd.f60.body).getD .skip

abbrev h_shape_Valid_0 : List Slot := [.dead, .box [.d (.st (.pair (.sl (.int .i64)) .bool))], .dead, .data (.int .i64), .dead, .dead, .dead, .dead, .dead, .dead, .dead, .dead, .dead, .dead, .data (.sl (.int .i64)), .data (.int .i64), .data (.int .i64), .dead, .dead, .dead, .dead, .dead, .dead, .dead, .dead, .dead, .dead, .dead, .dead, .dead, .dead, .dead, .dead, .dead, .dead, .dead, .dead, .dead, .dead, .dead, .dead, .dead]
abbrev e_shape_Valid_0 : List (AX × List Slot) := [(AX.exit 0, [.dead, .box [.d (.st (.pair (.sl (.int .i64)) .bool))], .dead, .data (.int .i64), .dead, .dead, .dead, .dead, .dead, .dead, .dead, .dead, .dead, .dead, .dead, .dead, .dead, .dead, .dead, .dead, .dead, .dead, .dead, .dead, .dead, .dead, .dead, .dead, .dead, .dead, .dead, .dead, .dead, .dead, .dead, .dead, .dead, .dead, .dead, .dead, .dead, .dead]), (AX.ret, [.dead, .dead, .data .err, .dead, .dead, .dead, .dead, .dead, .dead, .dead, .dead, .dead, .dead, .dead, .dead, .dead, .dead, .dead, .dead, .dead, .dead, .dead, .dead, .dead, .dead, .dead, .dead, .dead, .dead, .dead, .dead, .dead, .dead, .dead, .dead, .dead, .dead, .dead, .dead, .dead, .dead, .dead])]
def g_shape_Valid_0 (N : Nat) : Nat → ((List Int × Bool) × Unit) → Int → List Int → Int → Int → Option (Sum (((List Int × Bool) × Unit) × (Int × Unit)) (Er × Unit))
  | 0, _, _, _, _, _ => none
  | n + 1, d_1, n_3, t_14, t_15, t_16 =>
    cond (decide (t_16 < t_15))
      (
      cond (decide ((0 : Int) ≤ t_16))
        (
        cond (decide ((Int.toNat t_16) < (List.length t_14)))
          (
          cond (decide ((List.getD t_14 (Int.toNat t_16) (0 : Int)) < (1 : Int)))
            (
            some (Sum.inr ((Go.Eng.Er.s ErrRange), ())))
            (
            cond (decide ((256 : Int) < (List.getD t_14 (Int.toNat t_16) (0 : Int))))
              (
              some (Sum.inr ((Go.Eng.Er.s ErrRange), ())))
              (
              (g_shape_Valid_0 N n d_1 n_3 t_14 t_15 (wi64 (t_16 + (1 : Int)))))))
          (
          none))
        (
        none))
      (
      some (Sum.inl (d_1, (n_3, ()))))

abbrev h_shape_Valid_1 : List Slot := [.dead, .dead, .dead, .data (.int .i64), .dead, .dead, .dead, .dead, .dead, .dead, .dead, .dead, .dead, .dead, .dead, .dead, .dead, .dead, .dead, .dead, .dead, .dead, .dead, .dead, .dead, .dead, .dead, .dead, .dead, .data (.sl (.int .i64)), .data (.int .i64), .data (.int .i64), .dead, .dead, .dead, .dead, .dead, .dead, .dead, .dead, .dead, .dead]
abbrev e_shape_Valid_1 : List (AX × List Slot) := [(AX.exit 2, [.dead, .dead, .dead, .dead, .dead, .dead, .dead, .dead, .dead, .dead, .dead, .dead, .dead, .dead, .dead, .dead, .dead, .dead, .dead, .dead, .dead, .dead, .dead, .dead, .dead, .dead, .dead, .dead, .dead, .dead, .dead, .dead, .dead, .dead, .dead, .dead, .dead, .dead, .dead, .dead, .dead, .dead]), (AX.ret, [.dead, .dead, .data .err, .dead, .dead, .dead, .dead, .dead, .dead, .dead, .dead, .dead, .dead, .dead, .dead, .dead, .dead, .dead, .dead, .dead, .dead, .dead, .dead, .dead, .dead, .dead, .dead, .dead, .dead, .dead, .dead, .dead, .dead, .dead, .dead, .dead, .dead, .dead, .dead, .dead, .dead, .dead])]
def g_shape_Valid_1 (N : Nat) : Nat → Int → List Int → Int → Int → Option (Sum Unit (Er × Unit))
  | 0, _, _, _, _ => none
  | n + 1, n_3, t_29, t_30, t_31 =>
    cond (decide (t_31 < t_30))
      (
      cond (decide ((0 : Int) ≤ t_31))
        (
        cond (decide ((Int.toNat t_31) < (List.length t_29)))
          (
          cond (decide ((16384 : Int) < (wi64 (n_3 * (List.getD t_29 (Int.toNat t_31) (0 : Int))))))
            (
            some (Sum.inr ((Go.Eng.Er.s ErrMany), ())))
            (
            (g_shape_Valid_1 N n (wi64 (n_3 * (List.getD t_29 (Int.toNat t_31) (0 : Int)))) t_29 t_30 (wi64 (t_31 + (1 : Int))))))
          (
          none))
        (
        none))
      (
      some (Sum.inl ()))

def F_shape_Valid (N : Nat) (d_0 : (List Int × Bool)) : Option (Er × Unit) :=
  cond (decide ((4 : Int) < (Nat.cast (List.length (d_0).1) : Int)))
    (
    some ((Go.Eng.Er.s ErrMany), ()))
    (
    Option.bind (g_shape_Valid_0 N N (d_0, ()) (1 : Int) (d_0).1 (Nat.cast (List.length (d_0).1) : Int) (0 : Int)) fun y0 =>
    Sum.elim (fun y1 =>
      Option.bind (g_shape_Valid_1 N N ((y1).2).1 (((y1).1).1).1 (Nat.cast (List.length (((y1).1).1).1) : Int) (0 : Int)) fun y2 =>
      Sum.elim (fun y3 =>
        some (Go.Eng.Er.nil, ()))
        (fun y4 =>
        some y4) y2)
      (fun y5 =>
      some y5) y0)

abbrev c_shape_Valid (N : Nat) : CallSpec := ⟨60, ps_shape_Valid, rs_shape_Valid, fun x => F_shape_Valid N x.1⟩
abbrev l_shape_Valid_1 (N : Nat) : LoopSpec := ⟨1, h_shape_Valid_1, e_shape_Valid_1, fun x => g_shape_Valid_1 N N x.1 x.2.1 x.2.2.1 x.2.2.2.1⟩
abbrev l_shape_Valid_0 (N : Nat) : LoopSpec := ⟨0, h_shape_Valid_0, e_shape_Valid_0, fun x => g_shape_Valid_0 N N x.1 x.2.1 x.2.2.1 x.2.2.2.1 x.2.2.2.2.1⟩

theorem cs_shape_Valid_ok (S : Nat → Addr) (N : Nat) : CallsOK Go.Proofs.Tryd.prog E S (cs_shape_Valid N) :=
  .nil
noncomputable abbrev b_shape_Valid_1 : Code := (loopsOf b_shape_Valid).getD 1 .skip
theorem g_shape_Valid_1_ok (S : Nat → Addr) (N : Nat) : ∀ n x y, (fun (x : Val (slotsTy h_shape_Valid_1)) => g_shape_Valid_1 N n x.1 x.2.1 x.2.2.1 x.2.2.2.1) x = some y → LoopCon Go.Proofs.Tryd.prog E S b_shape_Valid_1 (encSlots h_shape_Valid_1 x) (encEx e_shape_Valid_1 y).1 (encEx e_shape_Valid_1 y).2 :=
  loop_spec E_ok mixed (cs_shape_Valid_ok S N) (all := loopsOf b_shape_Valid) (ls := []) (.nil) (i := 1) (by kernel_rfl) (inner_of (by kernel_rfl)) (head := h_shape_Valid_1) (ex := e_shape_Valid_1) (fun n (x : Val (slotsTy h_shape_Valid_1)) => g_shape_Valid_1 N n x.1 x.2.1 x.2.2.1 x.2.2.2.1) (fun _ => rfl) (fun n x => by kernel_rfl)
noncomputable abbrev b_shape_Valid_0 : Code := (loopsOf b_shape_Valid).getD 0 .skip
theorem g_shape_Valid_0_ok (S : Nat → Addr) (N : Nat) : ∀ n x y, (fun (x : Val (slotsTy h_shape_Valid_0)) => g_shape_Valid_0 N n x.1 x.2.1 x.2.2.1 x.2.2.2.1 x.2.2.2.2.1) x = some y → LoopCon Go.Proofs.Tryd.prog E S b_shape_Valid_0 (encSlots h_shape_Valid_0 x) (encEx e_shape_Valid_0 y).1 (encEx e_shape_Valid_0 y).2 :=
  loop_spec E_ok mixed (cs_shape_Valid_ok S N) (all := loopsOf b_shape_Valid) (ls := []) (.nil) (i := 0) (by kernel_rfl) (inner_of (by kernel_rfl)) (head := h_shape_Valid_0) (ex := e_shape_Valid_0) (fun n (x : Val (slotsTy h_shape_Valid_0)) => g_shape_Valid_0 N n x.1 x.2.1 x.2.2.1 x.2.2.2.1 x.2.2.2.2.1) (fun _ => rfl) (fun n x => by kernel_rfl)
theorem F_shape_Valid_ok (S : Nat → Addr) (N : Nat) : ∀ x y, (c_shape_Valid N).g x = some y → FCon Go.Proofs.Tryd.prog E S 60 ps_shape_Valid rs_shape_Valid x y := by
  intro x y h
  exact fun_spec E_ok mixed (cs_shape_Valid_ok S N) (f := 60) (fi := ⟨b_shape_Valid, 42, Go.Proofs.Tryd.f60.results.toList⟩) (by kernel_rfl) (ls := [l_shape_Valid_1 N, l_shape_Valid_0 N]) (.cons (by kernel_rfl) (g_shape_Valid_1_ok S N N) (.cons (by kernel_rfl) (g_shape_Valid_0_ok S N N) (.nil))) (by kernel_rfl) (ps := ps_shape_Valid) (rs := rs_shape_Valid) (Eq.trans (b := F_shape_Valid N x.1) (by kernel_rfl) h)

/-! lodge/tens.Narrow -/

abbrev ps_tens_Narrow : List Ty := [(.int .i64)]
abbrev rs_tens_Narrow : List Slot := [.data (.int .i64)]
abbrev cs_tens_Narrow (N : Nat) : List CallSpec := []
noncomputable abbrev b_tens_Narrow : Code := (Go.Proofs.Tryd.f63.body).getD .skip

def F_tens_Narrow (N : Nat) (n_0 : Int) : Option (Int × Unit) :=
  some ((Go.Eng.imax (-(128 : Int)) (Go.Eng.imin n_0 (127 : Int))), ())

abbrev c_tens_Narrow (N : Nat) : CallSpec := ⟨63, ps_tens_Narrow, rs_tens_Narrow, fun x => F_tens_Narrow N x.1⟩

theorem cs_tens_Narrow_ok (S : Nat → Addr) (N : Nat) : CallsOK Go.Proofs.Tryd.prog E S (cs_tens_Narrow N) :=
  .nil
theorem F_tens_Narrow_ok (S : Nat → Addr) (N : Nat) : ∀ x y, (c_tens_Narrow N).g x = some y → FCon Go.Proofs.Tryd.prog E S 63 ps_tens_Narrow rs_tens_Narrow x y := by
  intro x y h
  exact fun_spec E_ok mixed (cs_tens_Narrow_ok S N) (f := 63) (fi := ⟨b_tens_Narrow, 6, Go.Proofs.Tryd.f63.results.toList⟩) (by kernel_rfl) (ls := []) (.nil) (by kernel_rfl) (ps := ps_tens_Narrow) (rs := rs_tens_Narrow) (Eq.trans (b := F_tens_Narrow N x.1) (by kernel_rfl) h)

/-! lodge/mat.narrow -/

abbrev ps_mat_narrow : List Ty := [(.int .i64)]
abbrev rs_mat_narrow : List Slot := [.data .bool]
abbrev cs_mat_narrow (N : Nat) : List CallSpec := [c_tens_Narrow N]
noncomputable abbrev b_mat_narrow : Code := (Go.Proofs.Tryd.f62.body).getD .skip

def F_mat_narrow (N : Nat) (n_0 : Int) : Option (Bool × Unit) :=
  Option.bind (F_tens_Narrow N n_0) fun y0 =>
  some ((decide ((y0).1 = n_0)), ())

abbrev c_mat_narrow (N : Nat) : CallSpec := ⟨62, ps_mat_narrow, rs_mat_narrow, fun x => F_mat_narrow N x.1⟩

theorem cs_mat_narrow_ok (S : Nat → Addr) (N : Nat) : CallsOK Go.Proofs.Tryd.prog E S (cs_mat_narrow N) :=
  .cons (F_tens_Narrow_ok S N) (.nil)
theorem F_mat_narrow_ok (S : Nat → Addr) (N : Nat) : ∀ x y, (c_mat_narrow N).g x = some y → FCon Go.Proofs.Tryd.prog E S 62 ps_mat_narrow rs_mat_narrow x y := by
  intro x y h
  exact fun_spec E_ok mixed (cs_mat_narrow_ok S N) (f := 62) (fi := ⟨b_mat_narrow, 7, Go.Proofs.Tryd.f62.results.toList⟩) (by kernel_rfl) (ls := []) (.nil) (by kernel_rfl) (ps := ps_mat_narrow) (rs := rs_mat_narrow) (Eq.trans (b := F_mat_narrow N x.1) (by kernel_rfl) h)

/-! lodge/mat.Result -/

abbrev ps_mat_Result : List Ty := [(.int .i64), (.int .i64), (.st (.pair (.sl (.int .i64)) .bool)), (.st (.pair (.sl (.int .i64)) .bool))]
abbrev rs_mat_Result : List Slot := [.data (.st (.pair (.sl (.int .i64)) .bool)), .data .err]
abbrev cs_mat_Result (N : Nat) : List CallSpec := [c_shape_Valid N, c_mat_narrow N]
noncomputable abbrev b_mat_Result : Code := (Go.Proofs.Tryd.f31.body).getD .skip

abbrev h_mat_Result_0 : List Slot := [.data (.int .i64), .data (.int .i64), .dead, .dead, .dead, .dead, .box [.d (.st (.pair (.sl (.int .i64)) .bool))], .box [.d (.st (.pair (.sl (.int .i64)) .bool))], .box [.sl (.int .i64), .d .bool], .dead, .dead, .dead, .dead, .dead, .dead, .dead, .dead, .sl (.st (.pair (.sl (.int .i64)) .bool)), .data (.int .i64), .data (.int .i64), .dead, .dead, .dead, .dead, .dead, .dead, .dead, .dead, .dead, .dead, .dead, .dead, .dead, .dead, .dead, .dead, .dead, .dead, .dead, .dead, .dead, .dead, .dead, .dead, .dead, .dead, .dead, .dead, .dead, .dead, .dead, .dead, .dead, .dead, .dead, .dead, .dead, .dead, .dead, .dead, .dead, .dead, .dead, .dead, .dead, .dead, .dead, .dead, .dead, .dead, .dead, .dead, .dead, .dead, .dead, .dead, .dead, .dead, .dead, .dead, .dead, .dead, .dead, .dead, .dead, .dead, .dead, .dead]
abbrev e_mat_Result_0 : List (AX × List Slot) := [(AX.exit 0, [.data (.int .i64), .data (.int .i64), .dead, .dead, .dead, .dead, .box [.d (.st (.pair (.sl (.int .i64)) .bool))], .box [.d (.st (.pair (.sl (.int .i64)) .bool))], .box [.sl (.int .i64), .d .bool], .dead, .dead, .dead, .dead, .dead, .dead, .dead, .dead, .dead, .dead, .dead, .dead, .dead, .dead, .dead, .dead, .dead, .dead, .dead, .dead, .dead, .dead, .dead, .dead, .dead, .dead, .dead, .dead, .dead, .dead, .dead, .dead, .dead, .dead, .dead, .dead, .dead, .dead, .dead, .dead, .dead, .dead, .dead, .dead, .dead, .dead, .dead, .dead, .dead, .dead, .dead, .dead, .dead, .dead, .dead, .dead, .dead, .dead, .dead, .dead, .dead, .dead, .dead, .dead, .dead, .dead, .dead, .dead, .dead, .dead, .dead, .dead, .dead, .dead, .dead, .dead, .dead, .dead, .dead]), (AX.ret, [.dead, .dead, .dead, .dead, .dead, .dead, .dead, .dead, .box [.sl (.int .i64), .d .bool], .data .err, .dead, .dead, .dead, .dead, .dead, .dead, .dead, .dead, .dead, .dead, .dead, .dead, .dead, .dead, .dead, .dead, .dead, .dead, .dead, .dead, .dead, .dead, .dead, .dead, .dead, .dead, .dead, .dead, .dead, .dead, .dead, .dead, .dead, .dead, .dead, .dead, .dead, .dead, .dead, .dead, .dead, .dead, .dead, .dead, .dead, .dead, .dead, .dead, .dead, .dead, .dead, .dead, .dead, .dead, .dead, .dead, .dead, .dead, .dead, .dead, .dead, .dead, .dead, .dead, .dead, .dead, .dead, .dead, .dead, .dead, .dead, .dead, .dead, .dead, .dead, .dead, .dead, .dead])]
def g_mat_Result_0 (N : Nat) : Nat → Int → Int → ((List Int × Bool) × Unit) → ((List Int × Bool) × Unit) → (List Int × (Bool × Unit)) → List ((List Int × Bool)) → Int → Int → Option (Sum (Int × (Int × (((List Int × Bool) × Unit) × (((List Int × Bool) × Unit) × ((List Int × (Bool × Unit)) × Unit))))) ((List Int × (Bool × Unit)) × (Er × Unit)))
  | 0, _, _, _, _, _, _, _, _ => none
  | n + 1, za_0, zb_1, a_6, b_7, t_8, t_17, t_18, t_19 =>
    cond (decide (t_19 < t_18))
      (
      cond (decide ((0 : Int) ≤ t_19))
        (
        cond (decide ((Int.toNat t_19) < (List.length t_17)))
          (
          cond (decide (((0 : Nat) + (Int.toNat t_19)) < (List.length t_17)))
            (
            Option.bind (F_shape_Valid N (List.getD t_17 ((0 : Nat) + (Int.toNat t_19)) (([] : List Int), false))) fun y1 =>
            cond (Bool.not (Go.Eng.Er.isNil (y1).1))
              (
              some (Sum.inr ((([] : List Int), (false, ())), y1)))
              (
              cond (decide ((List.length (t_8).1) = (List.length (t_8).1)))
                (
                cond (decide ((List.length t_17) = (List.length t_17)))
                  (
                  (g_mat_Result_0 N n za_0 zb_1 a_6 b_7 t_8 t_17 t_18 (wi64 (t_19 + (1 : Int)))))
                  (
                  none))
                (
                none)))
            (
            none))
          (
          none))
        (
        none))
      (
      cond (decide ((List.length (t_8).1) = (List.length (t_8).1)))
        (
        some (Sum.inl (za_0, (zb_1, (a_6, (b_7, (t_8, ())))))))
        (
        none))

def F_mat_Result (N : Nat) (za_0 : Int) (zb_1 : Int) (a_2 : (List Int × Bool)) (b_3 : (List Int × Bool)) : Option ((List Int × Bool) × (Er × Unit)) :=
  Option.bind (g_mat_Result_0 N N za_0 zb_1 (a_2, ()) (b_3, ()) (([] : List Int), (false, ())) (a_2 :: (b_3 :: ([] : List ((List Int) × Bool)))) (Nat.cast (2 : Nat) : Int) (0 : Int)) fun y0 =>
  Sum.elim (fun y1 =>
    cond (decide (@Ne Int (Nat.cast (List.length (((((y1).2).2).1).1).1) : Int) (2 : Int)))
      (
      some ((([] : List Int), false), ((Go.Eng.Er.s ErrShape), ())))
      (
      cond (decide (@Ne Int (Nat.cast (List.length ((((((y1).2).2).2).1).1).1) : Int) (2 : Int)))
        (
        some ((([] : List Int), false), ((Go.Eng.Er.s ErrShape), ())))
        (
        cond (decide (1 < (List.length (((((y1).2).2).1).1).1)))
          (
          cond (decide (0 < (List.length ((((((y1).2).2).2).1).1).1)))
            (
            cond (decide (@Ne Int (List.getD (((((y1).2).2).1).1).1 1 (0 : Int)) (List.getD ((((((y1).2).2).2).1).1).1 0 (0 : Int))))
              (
              some ((([] : List Int), false), ((Go.Eng.Er.s ErrShape), ())))
              (
              cond (((((y1).2).2).1).1).2
                (
                some ((([] : List Int), false), ((Go.Eng.Er.s ErrShape), ())))
                (
                cond ((((((y1).2).2).2).1).1).2
                  (
                  some ((([] : List Int), false), ((Go.Eng.Er.s ErrShape), ())))
                  (
                  Option.bind (F_mat_narrow N (y1).1) fun y2 =>
                  cond (Bool.not (y2).1)
                    (
                    some ((([] : List Int), false), ((Go.Eng.Er.s ErrRange), ())))
                    (
                    Option.bind (F_mat_narrow N ((y1).2).1) fun y3 =>
                    cond (Bool.not (y3).1)
                      (
                      some ((([] : List Int), false), ((Go.Eng.Er.s ErrRange), ())))
                      (
                      cond (decide (0 < (List.length (((((y1).2).2).1).1).1)))
                        (
                        cond (decide (1 < (List.length ((((((y1).2).2).2).1).1).1)))
                          (
                          Option.bind (F_shape_Valid N (((List.getD (((((y1).2).2).1).1).1 0 (0 : Int)) :: ((List.getD ((((((y1).2).2).2).1).1).1 1 (0 : Int)) :: ([] : List Int))), true)) fun y4 =>
                          cond (Bool.not (Go.Eng.Er.isNil (y4).1))
                            (
                            some ((([] : List Int), false), y4))
                            (
                            some ((((List.getD (((((y1).2).2).1).1).1 0 (0 : Int)) :: ((List.getD ((((((y1).2).2).2).1).1).1 1 (0 : Int)) :: ([] : List Int))), true), (Go.Eng.Er.nil, ()))))
                          (
                          none))
                        (
                        none)))))))
            (
            none))
          (
          none))))
    (fun y5 =>
    cond (decide (((0 : Nat) + (List.length ((y5).1).1)) ≤ (List.length ((y5).1).1)))
      (
      some (((List.take (List.length ((y5).1).1) ((y5).1).1), (((y5).1).2).1), (y5).2))
      (
      none)) y0

abbrev c_mat_Result (N : Nat) : CallSpec := ⟨31, ps_mat_Result, rs_mat_Result, fun x => F_mat_Result N x.1 x.2.1 x.2.2.1 x.2.2.2.1⟩
abbrev l_mat_Result_0 (N : Nat) : LoopSpec := ⟨0, h_mat_Result_0, e_mat_Result_0, fun x => g_mat_Result_0 N N x.1 x.2.1 x.2.2.1 x.2.2.2.1 x.2.2.2.2.1 x.2.2.2.2.2.1 x.2.2.2.2.2.2.1 x.2.2.2.2.2.2.2.1⟩

theorem cs_mat_Result_ok (S : Nat → Addr) (N : Nat) : CallsOK Go.Proofs.Tryd.prog E S (cs_mat_Result N) :=
  .cons (F_shape_Valid_ok S N) (.cons (F_mat_narrow_ok S N) (.nil))
noncomputable abbrev b_mat_Result_0 : Code := (loopsOf b_mat_Result).getD 0 .skip
theorem g_mat_Result_0_ok (S : Nat → Addr) (N : Nat) : ∀ n x y, (fun (x : Val (slotsTy h_mat_Result_0)) => g_mat_Result_0 N n x.1 x.2.1 x.2.2.1 x.2.2.2.1 x.2.2.2.2.1 x.2.2.2.2.2.1 x.2.2.2.2.2.2.1 x.2.2.2.2.2.2.2.1) x = some y → LoopCon Go.Proofs.Tryd.prog E S b_mat_Result_0 (encSlots h_mat_Result_0 x) (encEx e_mat_Result_0 y).1 (encEx e_mat_Result_0 y).2 :=
  loop_spec E_ok mixed (cs_mat_Result_ok S N) (all := loopsOf b_mat_Result) (ls := []) (.nil) (i := 0) (by kernel_rfl) (inner_of (by kernel_rfl)) (head := h_mat_Result_0) (ex := e_mat_Result_0) (fun n (x : Val (slotsTy h_mat_Result_0)) => g_mat_Result_0 N n x.1 x.2.1 x.2.2.1 x.2.2.2.1 x.2.2.2.2.1 x.2.2.2.2.2.1 x.2.2.2.2.2.2.1 x.2.2.2.2.2.2.2.1) (fun _ => rfl) (fun n x => by kernel_rfl)
theorem F_mat_Result_ok (S : Nat → Addr) (N : Nat) : ∀ x y, (c_mat_Result N).g x = some y → FCon Go.Proofs.Tryd.prog E S 31 ps_mat_Result rs_mat_Result x y := by
  intro x y h
  exact fun_spec E_ok mixed (cs_mat_Result_ok S N) (f := 31) (fi := ⟨b_mat_Result, 88, Go.Proofs.Tryd.f31.results.toList⟩) (by kernel_rfl) (ls := [l_mat_Result_0 N]) (.cons (by kernel_rfl) (g_mat_Result_0_ok S N N) (.nil)) (by kernel_rfl) (ps := ps_mat_Result) (rs := rs_mat_Result) (Eq.trans (b := F_mat_Result N x.1 x.2.1 x.2.2.1 x.2.2.2.1) (by kernel_rfl) h)

/-! lodge/conv.Result -/

abbrev ps_conv_Result : List Ty := [(.sl (.int .i64)), (.st (.pair (.sl (.int .i64)) .bool)), (.st (.pair (.sl (.int .i64)) .bool))]
abbrev rs_conv_Result : List Slot := [.data (.st (.pair (.sl (.int .i64)) .bool)), .data .err]
abbrev cs_conv_Result (N : Nat) : List CallSpec := [c_shape_Valid N, c_tens_Narrow N]
noncomputable abbrev b_conv_Result : Code := (Go.Proofs.Tryd.f32.body).getD .skip

abbrev h_conv_Result_0 : List Slot := [.data (.sl (.int .i64)), .dead, .dead, .dead, .box [.d (.st (.pair (.sl (.int .i64)) .bool))], .box [.d (.st (.pair (.sl (.int .i64)) .bool))], .box [.sl (.int .i64), .d .bool], .dead, .dead, .dead, .dead, .dead, .dead, .dead, .dead, .dead, .dead, .dead, .dead, .dead, .dead, .dead, .dead, .dead, .dead, .sl (.st (.pair (.sl (.int .i64)) .bool)), .data (.int .i64), .data (.int .i64), .dead, .dead, .dead, .dead, .dead, .dead, .dead, .dead, .dead, .dead, .dead, .dead, .dead, .dead, .dead, .dead, .dead, .dead, .dead, .dead, .dead, .dead, .dead, .dead, .dead, .dead, .dead, .dead, .dead, .dead, .dead, .dead, .dead, .dead, .dead, .dead, .dead, .dead, .dead, .dead, .dead, .dead, .dead, .dead, .dead, .dead, .dead, .dead, .dead, .dead, .dead, .dead, .dead, .dead, .dead, .dead, .dead, .dead, .dead, .dead, .dead, .dead, .dead, .dead, .dead, .dead, .dead, .dead, .dead, .dead, .dead, .dead, .dead, .dead, .dead, .dead, .dead, .dead, .dead, .dead, .dead, .dead, .dead, .dead, .dead, .dead, .dead, .dead, .dead, .dead, .dead, .dead, .dead, .dead, .dead, .dead, .dead, .dead, .dead, .dead, .dead, .dead, .dead, .dead, .dead, .dead, .dead, .dead, .dead, .dead, .dead, .dead, .dead, .dead, .dead, .dead, .dead, .dead, .dead, .dead, .dead, .dead, .dead, .dead, .dead]
abbrev e_conv_Result_0 : List (AX × List Slot) := [(AX.exit 0, [.data (.sl (.int .i64)), .dead, .dead, .dead, .box [.d (.st (.pair (.sl (.int .i64)) .bool))], .box [.d (.st (.pair (.sl (.int .i64)) .bool))], .box [.sl (.int .i64), .d .bool], .dead, .dead, .dead, .dead, .dead, .dead, .dead, .dead, .dead, .dead, .dead, .dead, .dead, .dead, .dead, .dead, .dead, .dead, .dead, .dead, .dead, .dead, .dead, .dead, .dead, .dead, .dead, .dead, .dead, .dead, .dead, .dead, .dead, .dead, .dead, .dead, .dead, .dead, .dead, .dead, .dead, .dead, .dead, .dead, .dead, .dead, .dead, .dead, .dead, .dead, .dead, .dead, .dead, .dead, .dead, .dead, .dead, .dead, .dead, .dead, .dead, .dead, .dead, .dead, .dead, .dead, .dead, .dead, .dead, .dead, .dead, .dead, .dead, .dead, .dead, .dead, .dead, .dead, .dead, .dead, .dead, .dead, .dead, .dead, .dead, .dead, .dead, .dead, .dead, .dead, .dead, .dead, .dead, .dead, .dead, .dead, .dead, .dead, .dead, .dead, .dead, .dead, .dead, .dead, .dead, .dead, .dead, .dead, .dead, .dead, .dead, .dead, .dead, .dead, .dead, .dead, .dead, .dead, .dead, .dead, .dead, .dead, .dead, .dead, .dead, .dead, .dead, .dead, .dead, .dead, .dead, .dead, .dead, .dead, .dead, .dead, .dead, .dead, .dead, .dead, .dead, .dead, .dead, .dead, .dead, .dead]), (AX.ret, [.dead, .dead, .dead, .dead, .dead, .dead, .box [.sl (.int .i64), .d .bool], .data .err, .dead, .dead, .dead, .dead, .dead, .dead, .dead, .dead, .dead, .dead, .dead, .dead, .dead, .dead, .dead, .dead, .dead, .dead, .dead, .dead, .dead, .dead, .dead, .dead, .dead, .dead, .dead, .dead, .dead, .dead, .dead, .dead, .dead, .dead, .dead, .dead, .dead, .dead, .dead, .dead, .dead, .dead, .dead, .dead, .dead, .dead, .dead, .dead, .dead, .dead, .dead, .dead, .dead, .dead, .dead, .dead, .dead, .dead, .dead, .dead, .dead, .dead, .dead, .dead, .dead, .dead, .dead, .dead, .dead, .dead, .dead, .dead, .dead, .dead, .dead, .dead, .dead, .dead, .dead, .dead, .dead, .dead, .dead, .dead, .dead, .dead, .dead, .dead, .dead, .dead, .dead, .dead, .dead, .dead, .dead, .dead, .dead, .dead, .dead, .dead, .dead, .dead, .dead, .dead, .dead, .dead, .dead, .dead, .dead, .dead, .dead, .dead, .dead, .dead, .dead, .dead, .dead, .dead, .dead, .dead, .dead, .dead, .dead, .dead, .dead, .dead, .dead, .dead, .dead, .dead, .dead, .dead, .dead, .dead, .dead, .dead, .dead, .dead, .dead, .dead, .dead, .dead, .dead, .dead, .dead])]
def g_conv_Result_0 (N : Nat) : Nat → List Int → ((List Int × Bool) × Unit) → ((List Int × Bool) × Unit) → (List Int × (Bool × Unit)) → List ((List Int × Bool)) → Int → Int → Option (Sum (List Int × (((List Int × Bool) × Unit) × (((List Int × Bool) × Unit) × ((List Int × (Bool × Unit)) × Unit)))) ((List Int × (Bool × Unit)) × (Er × Unit)))
  | 0, _, _, _, _, _, _, _ => none
  | n + 1, args_0, a_4, k_5, t_6, t_25, t_26, t_27 =>
    cond (decide (t_27 < t_26))
      (
      cond (decide ((0 : Int) ≤ t_27))
        (
        cond (decide ((Int.toNat t_27) < (List.length t_25)))
          (
          cond (decide (((0 : Nat) + (Int.toNat t_27)) < (List.length t_25)))
            (
            Option.bind (F_shape_Valid N (List.getD t_25 ((0 : Nat) + (Int.toNat t_27)) (([] : List Int), false))) fun y1 =>
            cond (Bool.not (Go.Eng.Er.isNil (y1).1))
              (
              some (Sum.inr ((([] : List Int), (false, ())), y1)))
              (
              cond (decide ((List.length (t_6).1) = (List.length (t_6).1)))
                (
                cond (decide ((List.length t_25) = (List.length t_25)))
                  (
                  (g_conv_Result_0 N n args_0 a_4 k_5 t_6 t_25 t_26 (wi64 (t_27 + (1 : Int)))))
                  (
                  none))
                (
                none)))
            (
            none))
          (
          none))
        (
        none))
      (
      cond (decide ((List.length (t_6).1) = (List.length (t_6).1)))
        (
        some (Sum.inl (args_0, (a_4, (k_5, (t_6, ()))))))
        (
        none))

abbrev j_conv_Result : Joins := [(15, [(AX.normal, [.dead, .dead, .dead, .dead, .dead, .box [.d (.st (.pair (.sl (.int .i64)) .bool))], .box [.sl (.int .i64), .d .bool], .dead, .dead, .dead, .dead, .data (.int .i64), .dead, .dead, .data (.int .i64), .data (.int .i64), .dead, .dead, .dead, .dead, .dead, .dead, .dead, .dead, .dead, .dead, .dead, .dead, .dead, .dead, .dead, .dead, .dead, .dead, .dead, .dead, .dead, .dead, .dead, .dead, .dead, .dead, .dead, .dead, .dead, .dead, .dead, .dead, .dead, .dead, .dead, .dead, .dead, .dead, .dead, .dead, .dead, .dead, .dead, .dead, .dead, .dead, .dead, .dead, .dead, .dead, .dead, .dead, .dead, .dead, .dead, .dead, .dead, .dead, .dead, .dead, .dead, .dead, .dead, .dead, .dead, .dead, .dead, .dead, .dead, .dead, .dead, .dead, .dead, .dead, .dead, .dead, .dead, .dead, .dead, .dead, .dead, .dead, .dead, .dead, .dead, .dead, .dead, .dead, .dead, .dead, .dead, .dead, .dead, .dead, .dead, .dead, .dead, .dead, .dead, .dead, .dead, .dead, .dead, .dead, .dead, .dead, .dead, .dead, .dead, .dead, .dead, .dead, .dead, .data .bool, .dead, .dead, .dead, .dead, .dead, .dead, .dead, .dead, .dead, .dead, .dead, .dead, .dead, .dead, .dead, .dead, .dead, .dead, .dead, .dead, .dead, .dead, .dead])]),
  (11, [(AX.normal, [.dead, .dead, .dead, .dead, .box [.d (.st (.pair (.sl (.int .i64)) .bool))], .box [.d (.st (.pair (.sl (.int .i64)) .bool))], .box [.sl (.int .i64), .d .bool], .dead, .dead, .dead, .dead, .data (.int .i64), .data (.int .i64), .dead, .dead, .dead, .dead, .dead, .dead, .dead, .dead, .dead, .dead, .dead, .dead, .dead, .dead, .dead, .dead, .dead, .dead, .dead, .dead, .dead, .dead, .dead, .dead, .dead, .dead, .dead, .dead, .dead, .dead, .dead, .dead, .dead, .dead, .dead, .dead, .dead, .dead, .dead, .dead, .dead, .dead, .dead, .dead, .dead, .dead, .dead, .dead, .dead, .dead, .dead, .dead, .dead, .dead, .dead, .dead, .dead, .dead, .dead, .dead, .dead, .dead, .dead, .dead, .dead, .dead, .dead, .dead, .dead, .dead, .dead, .dead, .dead, .dead, .dead, .dead, .dead, .dead, .dead, .dead, .dead, .dead, .dead, .dead, .data .bool, .dead, .dead, .dead, .dead, .dead, .dead, .dead, .dead, .dead, .dead, .dead, .dead, .dead, .dead, .dead, .dead, .dead, .dead, .dead, .dead, .dead, .dead, .dead, .dead, .dead, .dead, .dead, .dead, .dead, .dead, .dead, .dead, .dead, .dead, .dead, .dead, .dead, .dead, .dead, .dead, .dead, .dead, .dead, .dead, .dead, .dead, .dead, .dead, .dead, .dead, .dead, .dead, .dead, .dead, .dead])]),
  (7, [(AX.normal, [.data (.sl (.int .i64)), .dead, .dead, .dead, .box [.d (.st (.pair (.sl (.int .i64)) .bool))], .box [.d (.st (.pair (.sl (.int .i64)) .bool))], .box [.sl (.int .i64), .d .bool], .dead, .dead, .dead, .dead, .dead, .dead, .dead, .dead, .dead, .dead, .dead, .dead, .dead, .dead, .dead, .dead, .dead, .dead, .dead, .dead, .dead, .dead, .dead, .dead, .dead, .dead, .dead, .dead, .dead, .dead, .dead, .dead, .dead, .dead, .dead, .dead, .dead, .dead, .dead, .dead, .dead, .dead, .dead, .dead, .dead, .dead, .dead, .dead, .dead, .dead, .dead, .dead, .dead, .dead, .dead, .dead, .dead, .dead, .dead, .data .bool, .dead, .dead, .dead, .dead, .dead, .dead, .dead, .dead, .dead, .dead, .dead, .dead, .dead, .dead, .dead, .dead, .dead, .dead, .dead, .dead, .dead, .dead, .dead, .dead, .dead, .dead, .dead, .dead, .dead, .dead, .dead, .dead, .dead, .dead, .dead, .dead, .dead, .dead, .dead, .dead, .dead, .dead, .dead, .dead, .dead, .dead, .dead, .dead, .dead, .dead, .dead, .dead, .dead, .dead, .dead, .dead, .dead, .dead, .dead, .dead, .dead, .dead, .dead, .dead, .dead, .dead, .dead, .dead, .dead, .dead, .dead, .dead, .dead, .dead, .dead, .dead, .dead, .dead, .dead, .dead, .dead, .dead, .dead, .dead, .dead, .dead])])]
def F_conv_Result (N : Nat) (args_0 : List Int) (a_1 : (List Int × Bool)) (k_2 : (List Int × Bool)) : Option ((List Int × Bool) × (Er × Unit)) :=
  cond (decide (@Ne Int (Nat.cast (List.length args_0) : Int) (3 : Int)))
    (
    some ((([] : List Int), false), ((Go.Eng.Er.s ErrShape), ())))
    (
    Option.bind (g_conv_Result_0 N N args_0 (a_1, ()) (k_2, ()) (([] : List Int), (false, ())) (a_1 :: (k_2 :: ([] : List ((List Int) × Bool)))) (Nat.cast (2 : Nat) : Int) (0 : Int)) fun y0 =>
    Sum.elim (fun y1 =>
      Option.bind (
          cond (decide (@Ne Int (Nat.cast (List.length ((((y1).2).1).1).1) : Int) (3 : Int)))
            (
            cond (decide ((List.length (((((y1).2).2).2).1).1) = (List.length (((((y1).2).2).2).1).1)))
              (
              some ((y1).1, (((y1).2).1, ((((y1).2).2).1, (((((y1).2).2).2).1, (true, ()))))))
              (
              none))
            (
            cond (decide (@Ne Int (Nat.cast (List.length (((((y1).2).2).1).1).1) : Int) (4 : Int)))
              (
              cond (decide ((List.length (((((y1).2).2).2).1).1) = (List.length (((((y1).2).2).2).1).1)))
                (
                some ((y1).1, (((y1).2).1, ((((y1).2).2).1, (((((y1).2).2).2).1, (true, ()))))))
                (
                none))
              (
              cond (decide (2 < (List.length ((((y1).2).1).1).1)))
                (
                cond (decide (2 < (List.length (((((y1).2).2).1).1).1)))
                  (
                  cond (decide (@Ne Int (List.getD ((((y1).2).1).1).1 2 (0 : Int)) (List.getD (((((y1).2).2).1).1).1 2 (0 : Int))))
                    (
                    cond (decide ((List.length (((((y1).2).2).2).1).1) = (List.length (((((y1).2).2).2).1).1)))
                      (
                      some ((y1).1, (((y1).2).1, ((((y1).2).2).1, (((((y1).2).2).2).1, (true, ()))))))
                      (
                      none))
                    (
                    cond ((((y1).2).1).1).2
                      (
                      cond (decide ((List.length (((((y1).2).2).2).1).1) = (List.length (((((y1).2).2).2).1).1)))
                        (
                        some ((y1).1, (((y1).2).1, ((((y1).2).2).1, (((((y1).2).2).2).1, (true, ()))))))
                        (
                        none))
                      (
                      cond (decide ((List.length (((((y1).2).2).2).1).1) = (List.length (((((y1).2).2).2).1).1)))
                        (
                        some ((y1).1, (((y1).2).1, ((((y1).2).2).1, (((((y1).2).2).2).1, ((((((y1).2).2).1).1).2, ()))))))
                        (
                        none))))
                  (
                  none))
                (
                none)))) fun y2 =>
      cond (((((y2).2).2).2).2).1
        (
        some ((([] : List Int), false), ((Go.Eng.Er.s ErrShape), ())))
        (
        cond (decide (0 < (List.length (y2).1)))
          (
          cond (decide (1 < (List.length (y2).1)))
            (
            cond (decide (2 < (List.length (y2).1)))
              (
              Option.bind (
                  cond (decide ((List.getD (y2).1 0 (0 : Int)) < (1 : Int)))
                    (
                    cond (decide ((List.length (((((y2).2).2).2).1).1) = (List.length (((((y2).2).2).2).1).1)))
                      (
                      some (((y2).2).1, ((((y2).2).2).1, (((((y2).2).2).2).1, ((List.getD (y2).1 0 (0 : Int)), ((List.getD (y2).1 1 (0 : Int)), (true, ())))))))
                      (
                      none))
                    (
                    cond (decide ((16 : Int) < (List.getD (y2).1 0 (0 : Int))))
                      (
                      cond (decide ((List.length (((((y2).2).2).2).1).1) = (List.length (((((y2).2).2).2).1).1)))
                        (
                        some (((y2).2).1, ((((y2).2).2).1, (((((y2).2).2).2).1, ((List.getD (y2).1 0 (0 : Int)), ((List.getD (y2).1 1 (0 : Int)), (true, ())))))))
                        (
                        none))
                      (
                      cond (decide ((List.getD (y2).1 1 (0 : Int)) < (0 : Int)))
                        (
                        cond (decide ((List.length (((((y2).2).2).2).1).1) = (List.length (((((y2).2).2).2).1).1)))
                          (
                          some (((y2).2).1, ((((y2).2).2).1, (((((y2).2).2).2).1, ((List.getD (y2).1 0 (0 : Int)), ((List.getD (y2).1 1 (0 : Int)), (true, ())))))))
                          (
                          none))
                        (
                        cond (decide ((15 : Int) < (List.getD (y2).1 1 (0 : Int))))
                          (
                          cond (decide ((List.length (((((y2).2).2).2).1).1) = (List.length (((((y2).2).2).2).1).1)))
                            (
                            some (((y2).2).1, ((((y2).2).2).1, (((((y2).2).2).2).1, ((List.getD (y2).1 0 (0 : Int)), ((List.getD (y2).1 1 (0 : Int)), (true, ())))))))
                            (
                            none))
                          (
                          Option.bind (F_tens_Narrow N (List.getD (y2).1 2 (0 : Int))) fun y3 =>
                          cond (decide ((List.length (((((y2).2).2).2).1).1) = (List.length (((((y2).2).2).2).1).1)))
                            (
                            some (((y2).2).1, ((((y2).2).2).1, (((((y2).2).2).2).1, ((List.getD (y2).1 0 (0 : Int)), ((List.getD (y2).1 1 (0 : Int)), ((decide (@Ne Int (y3).1 (List.getD (y2).1 2 (0 : Int)))), ())))))))
                            (
                            none)))))) fun y4 =>
              cond ((((((y4).2).2).2).2).2).1
                (
                some ((([] : List Int), false), ((Go.Eng.Er.s ErrRange), ())))
                (
                cond (decide (0 < (List.length (((y4).1).1).1)))
                  (
                  cond (decide (0 < (List.length ((((y4).2).1).1).1)))
                    (
                    cond (decide (1 < (List.length (((y4).1).1).1)))
                      (
                      cond (decide (1 < (List.length ((((y4).2).1).1).1)))
                        (
                        Option.bind (
                            cond (decide ((wi64 ((wi64 ((List.getD (((y4).1).1).1 0 (0 : Int)) + (wi64 ((2 : Int) * (((((y4).2).2).2).2).1)))) - (List.getD ((((y4).2).1).1).1 0 (0 : Int)))) < (0 : Int)))
                              (
                              cond (decide ((List.length ((((y4).2).2).1).1) = (List.length ((((y4).2).2).1).1)))
                                (
                                some (((y4).2).1, ((((y4).2).2).1, (((((y4).2).2).2).1, ((wi64 ((wi64 ((List.getD (((y4).1).1).1 0 (0 : Int)) + (wi64 ((2 : Int) * (((((y4).2).2).2).2).1)))) - (List.getD ((((y4).2).1).1).1 0 (0 : Int)))), ((wi64 ((wi64 ((List.getD (((y4).1).1).1 1 (0 : Int)) + (wi64 ((2 : Int) * (((((y4).2).2).2).2).1)))) - (List.getD ((((y4).2).1).1).1 1 (0 : Int)))), (true, ())))))))
                                (
                                none))
                              (
                              cond (decide ((List.length ((((y4).2).2).1).1) = (List.length ((((y4).2).2).1).1)))
                                (
                                some (((y4).2).1, ((((y4).2).2).1, (((((y4).2).2).2).1, ((wi64 ((wi64 ((List.getD (((y4).1).1).1 0 (0 : Int)) + (wi64 ((2 : Int) * (((((y4).2).2).2).2).1)))) - (List.getD ((((y4).2).1).1).1 0 (0 : Int)))), ((wi64 ((wi64 ((List.getD (((y4).1).1).1 1 (0 : Int)) + (wi64 ((2 : Int) * (((((y4).2).2).2).2).1)))) - (List.getD ((((y4).2).1).1).1 1 (0 : Int)))), ((decide ((wi64 ((wi64 ((List.getD (((y4).1).1).1 1 (0 : Int)) + (wi64 ((2 : Int) * (((((y4).2).2).2).2).1)))) - (List.getD ((((y4).2).1).1).1 1 (0 : Int)))) < (0 : Int))), ())))))))
                                (
                                none))) fun y5 =>
                        cond ((((((y5).2).2).2).2).2).1
                          (
                          some ((([] : List Int), false), ((Go.Eng.Er.s ErrShape), ())))
                          (
                          cond (decide (@Ne Int (((y5).2).2).1 (0 : Int)))
                            (
                            cond (decide (@Ne Int (((y5).2).2).1 (0 : Int)))
                              (
                              cond (decide (3 < (List.length (((y5).1).1).1)))
                                (
                                Option.bind (F_shape_Valid N (((wi64 ((wi64 (Int.tdiv ((((y5).2).2).2).1 (((y5).2).2).1)) + (1 : Int))) :: ((wi64 ((wi64 (Int.tdiv (((((y5).2).2).2).2).1 (((y5).2).2).1)) + (1 : Int))) :: ((List.getD (((y5).1).1).1 3 (0 : Int)) :: ([] : List Int)))), true)) fun y6 =>
                                cond (Bool.not (Go.Eng.Er.isNil (y6).1))
                                  (
                                  some ((([] : List Int), false), y6))
                                  (
                                  some ((((wi64 ((wi64 (Int.tdiv ((((y5).2).2).2).1 (((y5).2).2).1)) + (1 : Int))) :: ((wi64 ((wi64 (Int.tdiv (((((y5).2).2).2).2).1 (((y5).2).2).1)) + (1 : Int))) :: ((List.getD (((y5).1).1).1 3 (0 : Int)) :: ([] : List Int)))), true), (Go.Eng.Er.nil, ()))))
                                (
                                none))
                              (
                              none))
                            (
                            none)))
                        (
                        none))
                      (
                      none))
                    (
                    none))
                  (
                  none)))
              (
              none))
            (
            none))
          (
          none)))
      (fun y7 =>
      cond (decide (((0 : Nat) + (List.length ((y7).1).1)) ≤ (List.length ((y7).1).1)))
        (
        some (((List.take (List.length ((y7).1).1) ((y7).1).1), (((y7).1).2).1), (y7).2))
        (
        none)) y0)

abbrev c_conv_Result (N : Nat) : CallSpec := ⟨32, ps_conv_Result, rs_conv_Result, fun x => F_conv_Result N x.1 x.2.1 x.2.2.1⟩
abbrev l_conv_Result_0 (N : Nat) : LoopSpec := ⟨0, h_conv_Result_0, e_conv_Result_0, fun x => g_conv_Result_0 N N x.1 x.2.1 x.2.2.1 x.2.2.2.1 x.2.2.2.2.1 x.2.2.2.2.2.1 x.2.2.2.2.2.2.1⟩

theorem cs_conv_Result_ok (S : Nat → Addr) (N : Nat) : CallsOK Go.Proofs.Tryd.prog E S (cs_conv_Result N) :=
  .cons (F_shape_Valid_ok S N) (.cons (F_tens_Narrow_ok S N) (.nil))
noncomputable abbrev b_conv_Result_0 : Code := (loopsOf b_conv_Result).getD 0 .skip
theorem g_conv_Result_0_ok (S : Nat → Addr) (N : Nat) : ∀ n x y, (fun (x : Val (slotsTy h_conv_Result_0)) => g_conv_Result_0 N n x.1 x.2.1 x.2.2.1 x.2.2.2.1 x.2.2.2.2.1 x.2.2.2.2.2.1 x.2.2.2.2.2.2.1) x = some y → LoopCon Go.Proofs.Tryd.prog E S b_conv_Result_0 (encSlots h_conv_Result_0 x) (encEx e_conv_Result_0 y).1 (encEx e_conv_Result_0 y).2 :=
  loop_spec E_ok mixed (cs_conv_Result_ok S N) (all := loopsOf b_conv_Result) (ls := []) (.nil) (i := 0) (by kernel_rfl) (inner_of (by kernel_rfl)) (head := h_conv_Result_0) (ex := e_conv_Result_0) (fun n (x : Val (slotsTy h_conv_Result_0)) => g_conv_Result_0 N n x.1 x.2.1 x.2.2.1 x.2.2.2.1 x.2.2.2.2.1 x.2.2.2.2.2.1 x.2.2.2.2.2.2.1) (fun _ => rfl) (fun n x => by kernel_rfl)
theorem F_conv_Result_ok (S : Nat → Addr) (N : Nat) : ∀ x y, (c_conv_Result N).g x = some y → FCon Go.Proofs.Tryd.prog E S 32 ps_conv_Result rs_conv_Result x y := by
  intro x y h
  exact fun_specJ E_ok mixed (cs_conv_Result_ok S N) (f := 32) (fi := ⟨b_conv_Result, 153, Go.Proofs.Tryd.f32.results.toList⟩) (by kernel_rfl) (ls := [l_conv_Result_0 N]) (.cons (by kernel_rfl) (g_conv_Result_0_ok S N N) (.nil)) (js := j_conv_Result) (by kernel_rfl) (ps := ps_conv_Result) (rs := rs_conv_Result) (Eq.trans (b := F_conv_Result N x.1 x.2.1 x.2.2.1) (by kernel_rfl) h)

/-! lodge/pool.Result -/

abbrev ps_pool_Result : List Ty := [(.sl (.int .i64)), (.st (.pair (.sl (.int .i64)) .bool))]
abbrev rs_pool_Result : List Slot := [.ag [.sl (.int .i64), .d .bool], .data .err]
abbrev cs_pool_Result (N : Nat) : List CallSpec := [c_shape_Valid N]
noncomputable abbrev b_pool_Result : Code := (Go.Proofs.Tryd.f33.body).getD .skip

def F_pool_Result (N : Nat) (args_0 : List Int) (a_1 : (List Int × Bool)) : Option ((List Int × (Bool × Unit)) × (Er × Unit)) :=
  cond (decide (@Ne Int (Nat.cast (List.length args_0) : Int) (2 : Int)))
    (
    some ((([] : List Int), (false, ())), ((Go.Eng.Er.s ErrShape), ())))
    (
    Option.bind (F_shape_Valid N a_1) fun y0 =>
    cond (Bool.not (Go.Eng.Er.isNil (y0).1))
      (
      some ((([] : List Int), (false, ())), y0))
      (
      cond (decide (@Ne Int (Nat.cast (List.length (a_1).1) : Int) (3 : Int)))
        (
        some ((([] : List Int), (false, ())), ((Go.Eng.Er.s ErrShape), ())))
        (
        cond (decide (0 < (List.length args_0)))
          (
          cond (decide (1 < (List.length args_0)))
            (
            cond (decide ((List.getD args_0 0 (0 : Int)) < (1 : Int)))
              (
              some ((([] : List Int), (false, ())), ((Go.Eng.Er.s ErrRange), ())))
              (
              cond (decide ((16 : Int) < (List.getD args_0 0 (0 : Int))))
                (
                some ((([] : List Int), (false, ())), ((Go.Eng.Er.s ErrRange), ())))
                (
                cond (decide ((List.getD args_0 1 (0 : Int)) < (1 : Int)))
                  (
                  some ((([] : List Int), (false, ())), ((Go.Eng.Er.s ErrRange), ())))
                  (
                  cond (decide ((16 : Int) < (List.getD args_0 1 (0 : Int))))
                    (
                    some ((([] : List Int), (false, ())), ((Go.Eng.Er.s ErrRange), ())))
                    (
                    cond (decide (0 < (List.length (a_1).1)))
                      (
                      cond (decide (1 < (List.length (a_1).1)))
                        (
                        cond (decide ((wi64 ((List.getD (a_1).1 0 (0 : Int)) - (List.getD args_0 0 (0 : Int)))) < (0 : Int)))
                          (
                          some ((([] : List Int), (false, ())), ((Go.Eng.Er.s ErrShape), ())))
                          (
                          cond (decide ((wi64 ((List.getD (a_1).1 1 (0 : Int)) - (List.getD args_0 0 (0 : Int)))) < (0 : Int)))
                            (
                            some ((([] : List Int), (false, ())), ((Go.Eng.Er.s ErrShape), ())))
                            (
                            cond (decide (@Ne Int (List.getD args_0 1 (0 : Int)) (0 : Int)))
                              (
                              cond (decide (@Ne Int (List.getD args_0 1 (0 : Int)) (0 : Int)))
                                (
                                cond (decide (2 < (List.length (a_1).1)))
                                  (
                                  some ((((wi64 ((wi64 (Int.tdiv (wi64 ((List.getD (a_1).1 0 (0 : Int)) - (List.getD args_0 0 (0 : Int)))) (List.getD args_0 1 (0 : Int)))) + (1 : Int))) :: ((wi64 ((wi64 (Int.tdiv (wi64 ((List.getD (a_1).1 1 (0 : Int)) - (List.getD args_0 0 (0 : Int)))) (List.getD args_0 1 (0 : Int)))) + (1 : Int))) :: ((List.getD (a_1).1 2 (0 : Int)) :: ([] : List Int)))), ((a_1).2, ())), (Go.Eng.Er.nil, ())))
                                  (
                                  none))
                                (
                                none))
                              (
                              none))))
                        (
                        none))
                      (
                      none))))))
            (
            none))
          (
          none))))

abbrev c_pool_Result (N : Nat) : CallSpec := ⟨33, ps_pool_Result, rs_pool_Result, fun x => F_pool_Result N x.1 x.2.1⟩

theorem cs_pool_Result_ok (S : Nat → Addr) (N : Nat) : CallsOK Go.Proofs.Tryd.prog E S (cs_pool_Result N) :=
  .cons (F_shape_Valid_ok S N) (.nil)
theorem F_pool_Result_ok (S : Nat → Addr) (N : Nat) : ∀ x y, (c_pool_Result N).g x = some y → FCon Go.Proofs.Tryd.prog E S 33 ps_pool_Result rs_pool_Result x y := by
  intro x y h
  exact fun_spec E_ok mixed (cs_pool_Result_ok S N) (f := 33) (fi := ⟨b_pool_Result, 86, Go.Proofs.Tryd.f33.results.toList⟩) (by kernel_rfl) (ls := []) (.nil) (by kernel_rfl) (ps := ps_pool_Result) (rs := rs_pool_Result) (Eq.trans (b := F_pool_Result N x.1 x.2.1) (by kernel_rfl) h)

/-! slices.Clone[[]int,int] -/

abbrev ps_slices_Clone_int_int : List Ty := [(.sl (.int .i64))]
abbrev rs_slices_Clone_int_int : List Slot := [.sl (.int .i64)]
abbrev cs_slices_Clone_int_int (N : Nat) : List CallSpec := []
noncomputable abbrev b_slices_Clone_int_int : Code := (Go.Proofs.Tryd.f65.body).getD .skip

def F_slices_Clone_int_int (N : Nat) (s_0 : List Int) : Option (List Int × Unit) :=
  cond (decide ((((0 : Nat) + (List.length s_0)) * (8 + (1 : Nat))) ≤ Go.Eng.most))
    (
    cond (decide (((0 : Nat) + (List.length s_0)) = (List.length (([] : List Int) ++ s_0))))
      (
      some ((([] : List Int) ++ s_0), ()))
      (
      none))
    (
    none)

abbrev c_slices_Clone_int_int (N : Nat) : CallSpec := ⟨65, ps_slices_Clone_int_int, rs_slices_Clone_int_int, fun x => F_slices_Clone_int_int N x.1⟩

theorem cs_slices_Clone_int_int_ok (S : Nat → Addr) (N : Nat) : CallsOK Go.Proofs.Tryd.prog E S (cs_slices_Clone_int_int N) :=
  .nil
theorem F_slices_Clone_int_int_ok (S : Nat → Addr) (N : Nat) : ∀ x y, (c_slices_Clone_int_int N).g x = some y → FCon Go.Proofs.Tryd.prog E S 65 ps_slices_Clone_int_int rs_slices_Clone_int_int x y := by
  intro x y h
  exact nil_spec E_ok mixed (f := 65) (fi := ⟨b_slices_Clone_int_int, 8, Go.Proofs.Tryd.f65.results.toList⟩) (by kernel_rfl) (by kernel_rfl) (t := (.int .i64)) (l := x.1) (rs := rs_slices_Clone_int_int) (y := y) (Eq.trans (b := F_slices_Clone_int_int N x.1) (by kernel_rfl) h) (fun hl => by
    have h' : F_slices_Clone_int_int N x.1 = some y := h
    rw [hl] at h'
    exact (show funKA E [] [] ⟨b_slices_Clone_int_int, 8, Go.Proofs.Tryd.f65.results.toList⟩ [.v (.slice none 0 0)] rs_slices_Clone_int_int = some ([], ()) by kernel_rfl).trans ((show F_slices_Clone_int_int N [] = some ([], ()) by kernel_rfl).symm.trans h'))

/-! lodge/shape.Clone -/

abbrev ps_shape_Clone : List Ty := [(.st (.pair (.sl (.int .i64)) .bool))]
abbrev rs_shape_Clone : List Slot := [.ag [.sl (.int .i64), .d .bool]]
abbrev cs_shape_Clone (N : Nat) : List CallSpec := [c_slices_Clone_int_int N]
noncomputable abbrev b_shape_Clone : Code := (Go.Proofs.Tryd.f70.body).getD .skip

def F_shape_Clone (N : Nat) (d_0 : (List Int × Bool)) : Option ((List Int × (Bool × Unit)) × Unit) :=
  Option.bind (F_slices_Clone_int_int N (d_0).1) fun y0 =>
  cond (decide ((List.length (y0).1) = (List.length (y0).1)))
    (
    some (((y0).1, ((d_0).2, ())), ()))
    (
    none)

abbrev c_shape_Clone (N : Nat) : CallSpec := ⟨70, ps_shape_Clone, rs_shape_Clone, fun x => F_shape_Clone N x.1⟩

theorem cs_shape_Clone_ok (S : Nat → Addr) (N : Nat) : CallsOK Go.Proofs.Tryd.prog E S (cs_shape_Clone N) :=
  .cons (F_slices_Clone_int_int_ok S N) (.nil)
theorem F_shape_Clone_ok (S : Nat → Addr) (N : Nat) : ∀ x y, (c_shape_Clone N).g x = some y → FCon Go.Proofs.Tryd.prog E S 70 ps_shape_Clone rs_shape_Clone x y := by
  intro x y h
  exact fun_spec E_ok mixed (cs_shape_Clone_ok S N) (f := 70) (fi := ⟨b_shape_Clone, 9, Go.Proofs.Tryd.f70.results.toList⟩) (by kernel_rfl) (ls := []) (.nil) (by kernel_rfl) (ps := ps_shape_Clone) (rs := rs_shape_Clone) (Eq.trans (b := F_shape_Clone N x.1) (by kernel_rfl) h)

/-! slices.Equal[[]int,int] -/

abbrev ps_slices_Equal_int_int : List Ty := [(.sl (.int .i64)), (.sl (.int .i64))]
abbrev rs_slices_Equal_int_int : List Slot := [.data .bool]
abbrev cs_slices_Equal_int_int (N : Nat) : List CallSpec := []
noncomputable abbrev b_slices_Equal_int_int : Code := (Go.Proofs.Tryd.f85.body).getD .skip

abbrev h_slices_Equal_int_int_0 : List Slot := [.data (.sl (.int .i64)), .data (.sl (.int .i64)), .dead, .dead, .dead, .dead, .dead, .dead, .dead, .dead, .dead, .dead, .data (.int .i64), .data (.int .i64), .dead, .dead, .dead, .dead, .dead, .dead, .dead, .dead, .dead, .dead, .dead, .dead]
abbrev e_slices_Equal_int_int_0 : List (AX × List Slot) := [(AX.exit 0, [.dead, .dead, .dead, .dead, .dead, .dead, .dead, .dead, .dead, .dead, .dead, .dead, .dead, .dead, .dead, .dead, .dead, .dead, .dead, .dead, .dead, .dead, .dead, .dead, .dead, .dead]), (AX.ret, [.dead, .dead, .dead, .dead, .data .bool, .dead, .dead, .dead, .dead, .dead, .dead, .dead, .dead, .dead, .dead, .dead, .dead, .dead, .dead, .dead, .dead, .dead, .dead, .dead, .dead, .dead])]
def g_slices_Equal_int_int_0 (N : Nat) : Nat → List Int → List Int → Int → Int → Option (Sum Unit (Bool × Unit))
  | 0, _, _, _, _ => none
  | n + 1, s1_0, s2_1, t_12, t_13 =>
    cond (decide (t_13 < t_12))
      (
      cond (decide ((0 : Int) ≤ t_13))
        (
        cond (decide ((Int.toNat t_13) < (List.length s1_0)))
          (
          cond (decide ((0 : Int) ≤ t_13))
            (
            cond (decide ((Int.toNat t_13) < (List.length s2_1)))
              (
              cond (decide (@Ne Int (List.getD s1_0 (Int.toNat t_13) (0 : Int)) (List.getD s2_1 (Int.toNat t_13) (0 : Int))))
                (
                some (Sum.inr (false, ())))
                (
                (g_slices_Equal_int_int_0 N n s1_0 s2_1 t_12 (wi64 (t_13 + (1 : Int))))))
              (
              none))
            (
            none))
          (
          none))
        (
        none))
      (
      some (Sum.inl ()))

def F_slices_Equal_int_int (N : Nat) (s1_0 : List Int) (s2_1 : List Int) : Option (Bool × Unit) :=
  cond (decide (@Ne Int (Nat.cast (List.length s1_0) : Int) (Nat.cast (List.length s2_1) : Int)))
    (
    some (false, ()))
    (
    Option.bind (g_slices_Equal_int_int_0 N N s1_0 s2_1 (Nat.cast (List.length s1_0) : Int) (0 : Int)) fun y0 =>
    Sum.elim (fun y1 =>
      some (true, ()))
      (fun y2 =>
      some y2) y0)

abbrev c_slices_Equal_int_int (N : Nat) : CallSpec := ⟨85, ps_slices_Equal_int_int, rs_slices_Equal_int_int, fun x => F_slices_Equal_int_int N x.1 x.2.1⟩
abbrev l_slices_Equal_int_int_0 (N : Nat) : LoopSpec := ⟨0, h_slices_Equal_int_int_0, e_slices_Equal_int_int_0, fun x => g_slices_Equal_int_int_0 N N x.1 x.2.1 x.2.2.1 x.2.2.2.1⟩

theorem cs_slices_Equal_int_int_ok (S : Nat → Addr) (N : Nat) : CallsOK Go.Proofs.Tryd.prog E S (cs_slices_Equal_int_int N) :=
  .nil
noncomputable abbrev b_slices_Equal_int_int_0 : Code := (loopsOf b_slices_Equal_int_int).getD 0 .skip
theorem g_slices_Equal_int_int_0_ok (S : Nat → Addr) (N : Nat) : ∀ n x y, (fun (x : Val (slotsTy h_slices_Equal_int_int_0)) => g_slices_Equal_int_int_0 N n x.1 x.2.1 x.2.2.1 x.2.2.2.1) x = some y → LoopCon Go.Proofs.Tryd.prog E S b_slices_Equal_int_int_0 (encSlots h_slices_Equal_int_int_0 x) (encEx e_slices_Equal_int_int_0 y).1 (encEx e_slices_Equal_int_int_0 y).2 :=
  loop_spec E_ok mixed (cs_slices_Equal_int_int_ok S N) (all := loopsOf b_slices_Equal_int_int) (ls := []) (.nil) (i := 0) (by kernel_rfl) (inner_of (by kernel_rfl)) (head := h_slices_Equal_int_int_0) (ex := e_slices_Equal_int_int_0) (fun n (x : Val (slotsTy h_slices_Equal_int_int_0)) => g_slices_Equal_int_int_0 N n x.1 x.2.1 x.2.2.1 x.2.2.2.1) (fun _ => rfl) (fun n x => by kernel_rfl)
theorem F_slices_Equal_int_int_ok (S : Nat → Addr) (N : Nat) : ∀ x y, (c_slices_Equal_int_int N).g x = some y → FCon Go.Proofs.Tryd.prog E S 85 ps_slices_Equal_int_int rs_slices_Equal_int_int x y := by
  intro x y h
  exact fun_spec E_ok mixed (cs_slices_Equal_int_int_ok S N) (f := 85) (fi := ⟨b_slices_Equal_int_int, 26, Go.Proofs.Tryd.f85.results.toList⟩) (by kernel_rfl) (ls := [l_slices_Equal_int_int_0 N]) (.cons (by kernel_rfl) (g_slices_Equal_int_int_0_ok S N N) (.nil)) (by kernel_rfl) (ps := ps_slices_Equal_int_int) (rs := rs_slices_Equal_int_int) (Eq.trans (b := F_slices_Equal_int_int N x.1 x.2.1) (by kernel_rfl) h)

/-! lodge/shape.Same -/

abbrev ps_shape_Same : List Ty := [(.st (.pair (.sl (.int .i64)) .bool)), (.st (.pair (.sl (.int .i64)) .bool))]
abbrev rs_shape_Same : List Slot := [.data .bool]
abbrev cs_shape_Same (N : Nat) : List CallSpec := [c_slices_Equal_int_int N]
noncomputable abbrev b_shape_Same : Code := (Go.Proofs.Tryd.f67.body).getD .skip

def F_shape_Same (N : Nat) (a_0 : (List Int × Bool)) (b_1 : (List Int × Bool)) : Option (Bool × Unit) :=
  cond ((a_0).2 == (b_1).2)
    (
    Option.bind (F_slices_Equal_int_int N (a_0).1 (b_1).1) fun y0 =>
    some y0)
    (
    some (false, ()))

abbrev c_shape_Same (N : Nat) : CallSpec := ⟨67, ps_shape_Same, rs_shape_Same, fun x => F_shape_Same N x.1 x.2.1⟩

theorem cs_shape_Same_ok (S : Nat → Addr) (N : Nat) : CallsOK Go.Proofs.Tryd.prog E S (cs_shape_Same N) :=
  .cons (F_slices_Equal_int_int_ok S N) (.nil)
theorem F_shape_Same_ok (S : Nat → Addr) (N : Nat) : ∀ x y, (c_shape_Same N).g x = some y → FCon Go.Proofs.Tryd.prog E S 67 ps_shape_Same rs_shape_Same x y := by
  intro x y h
  exact fun_spec E_ok mixed (cs_shape_Same_ok S N) (f := 67) (fi := ⟨b_shape_Same, 17, Go.Proofs.Tryd.f67.results.toList⟩) (by kernel_rfl) (ls := []) (.nil) (by kernel_rfl) (ps := ps_shape_Same) (rs := rs_shape_Same) (Eq.trans (b := F_shape_Same N x.1 x.2.1) (by kernel_rfl) h)

/-! lodge/soft.looks -/

abbrev ps_soft_looks : List Ty := [(.int .i64), (.sl (.st (.pair (.sl (.int .i64)) .bool)))]
abbrev rs_soft_looks : List Slot := [.ag [.sl (.int .i64), .d .bool], .data .bool]
abbrev cs_soft_looks (N : Nat) : List CallSpec := [c_slices_Clone_int_int N, c_shape_Clone N, c_shape_Same N]
noncomputable abbrev b_soft_looks : Code := (Go.Proofs.Tryd.f64.body).getD .skip

def F_soft_looks (N : Nat) (op_0 : Int) (ins_1 : List ((List Int × Bool))) : Option ((List Int × (Bool × Unit)) × (Bool × Unit)) :=
  cond (decide (0 < (List.length ins_1)))
    (
    cond (decide (op_0 = (16 : Int)))
      (
      Option.bind (F_shape_Clone N (List.getD ins_1 0 (([] : List Int), false))) fun y0 =>
      cond (decide ((0 : Int) < (Nat.cast (List.length ((List.getD ins_1 0 (([] : List Int), false))).1) : Int)))
        (
        cond (Bool.not ((List.getD ins_1 0 (([] : List Int), false))).2)
          (
          cond (decide (1 < (List.length ins_1)))
            (
            Option.bind (F_shape_Same N (List.getD ins_1 1 (([] : List Int), false)) (((256 : Int) :: ([] : List Int)), true)) fun y1 =>
            cond (decide ((List.length ((y0).1).1) = (List.length ((y0).1).1)))
              (
              some ((y0).1, y1))
              (
              none))
            (
            none))
          (
          cond (decide ((List.length ((y0).1).1) = (List.length ((y0).1).1)))
            (
            some ((y0).1, (false, ())))
            (
            none)))
        (
        cond (decide ((List.length ((y0).1).1) = (List.length ((y0).1).1)))
          (
          some ((y0).1, (false, ())))
          (
          none)))
      (
      cond (decide (op_0 = (17 : Int)))
        (
        cond (decide (1 < (List.length ins_1)))
          (
          cond (decide (@Ne Int (Nat.cast (List.length ((List.getD ins_1 0 (([] : List Int), false))).1) : Int) (2 : Int)))
            (
            some ((([] : List Int), (false, ())), (false, ())))
            (
            cond (decide (@Ne Int (Nat.cast (List.length ((List.getD ins_1 1 (([] : List Int), false))).1) : Int) (1 : Int)))
              (
              some ((([] : List Int), (false, ())), (false, ())))
              (
              cond (Bool.not ((List.getD ins_1 1 (([] : List Int), false))).2)
                (
                some ((([] : List Int), (false, ())), (false, ())))
                (
                cond (decide (0 < (List.length ((List.getD ins_1 1 (([] : List Int), false))).1)))
                  (
                  cond (decide (1 < (List.length ((List.getD ins_1 0 (([] : List Int), false))).1)))
                    (
                    some ((((List.getD ((List.getD ins_1 1 (([] : List Int), false))).1 0 (0 : Int)) :: ((List.getD ((List.getD ins_1 0 (([] : List Int), false))).1 1 (0 : Int)) :: ([] : List Int))), (((List.getD ins_1 0 (([] : List Int), false))).2, ())), (true, ())))
                    (
                    none))
                  (
                  none)))))
          (
          none))
        (
        cond (decide ((Nat.cast (List.length ((List.getD ins_1 0 (([] : List Int), false))).1) : Int) = (0 : Int)))
          (
          some ((([] : List Int), (false, ())), (false, ())))
          (
          cond (decide ((0 : Int) ≤ (wi64 ((Nat.cast (List.length ((List.getD ins_1 0 (([] : List Int), false))).1) : Int) - (1 : Int)))))
            (
            cond (decide ((Int.toNat (wi64 ((Nat.cast (List.length ((List.getD ins_1 0 (([] : List Int), false))).1) : Int) - (1 : Int)))) ≤ (List.length ((List.getD ins_1 0 (([] : List Int), false))).1)))
              (
              Option.bind (F_slices_Clone_int_int N (List.take ((Int.toNat (wi64 ((Nat.cast (List.length ((List.getD ins_1 0 (([] : List Int), false))).1) : Int) - (1 : Int)))) - (0 : Nat)) ((List.getD ins_1 0 (([] : List Int), false))).1)) fun y2 =>
              cond (decide ((List.length (y2).1) = (List.length (y2).1)))
                (
                some (((y2).1, (true, ())), (true, ())))
                (
                none))
              (
              none))
            (
            none)))))
    (
    none)

abbrev c_soft_looks (N : Nat) : CallSpec := ⟨64, ps_soft_looks, rs_soft_looks, fun x => F_soft_looks N x.1 x.2.1⟩

theorem cs_soft_looks_ok (S : Nat → Addr) (N : Nat) : CallsOK Go.Proofs.Tryd.prog E S (cs_soft_looks N) :=
  .cons (F_slices_Clone_int_int_ok S N) (.cons (F_shape_Clone_ok S N) (.cons (F_shape_Same_ok S N) (.nil)))
theorem F_soft_looks_ok (S : Nat → Addr) (N : Nat) : ∀ x y, (c_soft_looks N).g x = some y → FCon Go.Proofs.Tryd.prog E S 64 ps_soft_looks rs_soft_looks x y := by
  intro x y h
  exact fun_spec E_ok mixed (cs_soft_looks_ok S N) (f := 64) (fi := ⟨b_soft_looks, 76, Go.Proofs.Tryd.f64.results.toList⟩) (by kernel_rfl) (ls := []) (.nil) (by kernel_rfl) (ps := ps_soft_looks) (rs := rs_soft_looks) (Eq.trans (b := F_soft_looks N x.1 x.2.1) (by kernel_rfl) h)

/-! lodge/soft.Result -/

abbrev ps_soft_Result : List Ty := [(.int .i64), (.sl (.st (.pair (.sl (.int .i64)) .bool)))]
abbrev rs_soft_Result : List Slot := [.data (.st (.pair (.sl (.int .i64)) .bool)), .data .err]
abbrev cs_soft_Result (N : Nat) : List CallSpec := [c_shape_Valid N, c_soft_looks N]
noncomputable abbrev b_soft_Result : Code := (Go.Proofs.Tryd.f34.body).getD .skip

abbrev h_soft_Result_0 : List Slot := [.data (.int .i64), .data (.sl (.st (.pair (.sl (.int .i64)) .bool))), .dead, .dead, .box [.sl (.int .i64), .d .bool], .dead, .dead, .dead, .dead, .dead, .dead, .dead, .dead, .dead, .dead, .dead, .dead, .dead, .dead, .dead, .dead, .dead, .dead, .dead, .dead, .dead, .dead, .dead, .data (.sl (.st (.pair (.sl (.int .i64)) .bool))), .data (.int .i64), .data (.int .i64), .dead, .dead, .dead, .dead, .dead, .dead, .dead, .dead, .dead, .dead, .dead, .dead, .dead, .dead, .dead, .dead, .dead, .dead, .dead, .dead, .dead, .dead, .dead, .dead, .dead, .dead, .dead]
abbrev e_soft_Result_0 : List (AX × List Slot) := [(AX.exit 1, [.data (.int .i64), .data (.sl (.st (.pair (.sl (.int .i64)) .bool))), .dead, .dead, .box [.sl (.int .i64), .d .bool], .dead, .dead, .dead, .dead, .dead, .dead, .dead, .dead, .dead, .dead, .dead, .dead, .dead, .dead, .dead, .dead, .dead, .dead, .dead, .dead, .dead, .dead, .dead, .dead, .dead, .dead, .dead, .dead, .dead, .dead, .dead, .dead, .dead, .dead, .dead, .dead, .dead, .dead, .dead, .dead, .dead, .dead, .dead, .dead, .dead, .dead, .dead, .dead, .dead, .dead, .dead, .dead, .dead]), (AX.ret, [.dead, .dead, .dead, .dead, .box [.sl (.int .i64), .d .bool], .data .err, .dead, .dead, .dead, .dead, .dead, .dead, .dead, .dead, .dead, .dead, .dead, .dead, .dead, .dead, .dead, .dead, .dead, .dead, .dead, .dead, .dead, .dead, .dead, .dead, .dead, .dead, .dead, .dead, .dead, .dead, .dead, .dead, .dead, .dead, .dead, .dead, .dead, .dead, .dead, .dead, .dead, .dead, .dead, .dead, .dead, .dead, .dead, .dead, .dead, .dead, .dead, .dead])]
def g_soft_Result_0 (N : Nat) : Nat → Int → List ((List Int × Bool)) → (List Int × (Bool × Unit)) → List ((List Int × Bool)) → Int → Int → Option (Sum (Int × (List ((List Int × Bool)) × ((List Int × (Bool × Unit)) × Unit))) ((List Int × (Bool × Unit)) × (Er × Unit)))
  | 0, _, _, _, _, _, _ => none
  | n + 1, op_0, ins_1, t_4, t_28, t_29, t_30 =>
    cond (decide (t_30 < t_29))
      (
      cond (decide ((0 : Int) ≤ t_30))
        (
        cond (decide ((Int.toNat t_30) < (List.length t_28)))
          (
          Option.bind (F_shape_Valid N (List.getD t_28 (Int.toNat t_30) (([] : List Int), false))) fun y1 =>
          cond (Bool.not (Go.Eng.Er.isNil (y1).1))
            (
            some (Sum.inr ((([] : List Int), (false, ())), y1)))
            (
            cond (decide ((List.length (t_4).1) = (List.length (t_4).1)))
              (
              (g_soft_Result_0 N n op_0 ins_1 t_4 t_28 t_29 (wi64 (t_30 + (1 : Int)))))
              (
              none)))
          (
          none))
        (
        none))
      (
      cond (decide ((List.length (t_4).1) = (List.length (t_4).1)))
        (
        some (Sum.inl (op_0, (ins_1, (t_4, ())))))
        (
        none))

def F_soft_Result (N : Nat) (op_0 : Int) (ins_1 : List ((List Int × Bool))) : Option ((List Int × Bool) × (Er × Unit)) :=
  cond (decide (op_0 = (19 : Int)))
    (
    cond (decide (@Ne Int (Nat.cast (List.length ins_1) : Int) (1 : Int)))
      (
      some ((([] : List Int), false), ((Go.Eng.Er.s ErrShape), ())))
      (
      Option.bind (g_soft_Result_0 N N op_0 ins_1 (([] : List Int), (false, ())) ins_1 (Nat.cast (List.length ins_1) : Int) (0 : Int)) fun y0 =>
      Sum.elim (fun y1 =>
        Option.bind (F_soft_looks N (y1).1 ((y1).2).1) fun y2 =>
        cond (Bool.not ((y2).2).1)
          (
          some ((([] : List Int), false), ((Go.Eng.Er.s ErrShape), ())))
          (
          cond (decide (((0 : Nat) + (List.length ((y2).1).1)) ≤ (List.length ((y2).1).1)))
            (
            Option.bind (F_shape_Valid N ((List.take (List.length ((y2).1).1) ((y2).1).1), (((y2).1).2).1)) fun y3 =>
            cond (Bool.not (Go.Eng.Er.isNil (y3).1))
              (
              some ((([] : List Int), false), y3))
              (
              cond (decide (((0 : Nat) + (List.length ((y2).1).1)) ≤ (List.length ((y2).1).1)))
                (
                some (((List.take (List.length ((y2).1).1) ((y2).1).1), (((y2).1).2).1), (Go.Eng.Er.nil, ())))
                (
                none)))
            (
            none)))
        (fun y4 =>
        cond (decide (((0 : Nat) + (List.length ((y4).1).1)) ≤ (List.length ((y4).1).1)))
          (
          some (((List.take (List.length ((y4).1).1) ((y4).1).1), (((y4).1).2).1), (y4).2))
          (
          none)) y0))
    (
    cond (decide (op_0 = (20 : Int)))
      (
      cond (decide (@Ne Int (Nat.cast (List.length ins_1) : Int) (1 : Int)))
        (
        some ((([] : List Int), false), ((Go.Eng.Er.s ErrShape), ())))
        (
        Option.bind (g_soft_Result_0 N N op_0 ins_1 (([] : List Int), (false, ())) ins_1 (Nat.cast (List.length ins_1) : Int) (0 : Int)) fun y5 =>
        Sum.elim (fun y6 =>
          Option.bind (F_soft_looks N (y6).1 ((y6).2).1) fun y7 =>
          cond (Bool.not ((y7).2).1)
            (
            some ((([] : List Int), false), ((Go.Eng.Er.s ErrShape), ())))
            (
            cond (decide (((0 : Nat) + (List.length ((y7).1).1)) ≤ (List.length ((y7).1).1)))
              (
              Option.bind (F_shape_Valid N ((List.take (List.length ((y7).1).1) ((y7).1).1), (((y7).1).2).1)) fun y8 =>
              cond (Bool.not (Go.Eng.Er.isNil (y8).1))
                (
                some ((([] : List Int), false), y8))
                (
                cond (decide (((0 : Nat) + (List.length ((y7).1).1)) ≤ (List.length ((y7).1).1)))
                  (
                  some (((List.take (List.length ((y7).1).1) ((y7).1).1), (((y7).1).2).1), (Go.Eng.Er.nil, ())))
                  (
                  none)))
              (
              none)))
          (fun y9 =>
          cond (decide (((0 : Nat) + (List.length ((y9).1).1)) ≤ (List.length ((y9).1).1)))
            (
            some (((List.take (List.length ((y9).1).1) ((y9).1).1), (((y9).1).2).1), (y9).2))
            (
            none)) y5))
      (
      cond (decide (op_0 = (16 : Int)))
        (
        cond (decide (@Ne Int (Nat.cast (List.length ins_1) : Int) (2 : Int)))
          (
          some ((([] : List Int), false), ((Go.Eng.Er.s ErrShape), ())))
          (
          Option.bind (g_soft_Result_0 N N op_0 ins_1 (([] : List Int), (false, ())) ins_1 (Nat.cast (List.length ins_1) : Int) (0 : Int)) fun y10 =>
          Sum.elim (fun y11 =>
            Option.bind (F_soft_looks N (y11).1 ((y11).2).1) fun y12 =>
            cond (Bool.not ((y12).2).1)
              (
              some ((([] : List Int), false), ((Go.Eng.Er.s ErrShape), ())))
              (
              cond (decide (((0 : Nat) + (List.length ((y12).1).1)) ≤ (List.length ((y12).1).1)))
                (
                Option.bind (F_shape_Valid N ((List.take (List.length ((y12).1).1) ((y12).1).1), (((y12).1).2).1)) fun y13 =>
                cond (Bool.not (Go.Eng.Er.isNil (y13).1))
                  (
                  some ((([] : List Int), false), y13))
                  (
                  cond (decide (((0 : Nat) + (List.length ((y12).1).1)) ≤ (List.length ((y12).1).1)))
                    (
                    some (((List.take (List.length ((y12).1).1) ((y12).1).1), (((y12).1).2).1), (Go.Eng.Er.nil, ())))
                    (
                    none)))
                (
                none)))
            (fun y14 =>
            cond (decide (((0 : Nat) + (List.length ((y14).1).1)) ≤ (List.length ((y14).1).1)))
              (
              some (((List.take (List.length ((y14).1).1) ((y14).1).1), (((y14).1).2).1), (y14).2))
              (
              none)) y10))
        (
        cond (decide (op_0 = (17 : Int)))
          (
          cond (decide (@Ne Int (Nat.cast (List.length ins_1) : Int) (2 : Int)))
            (
            some ((([] : List Int), false), ((Go.Eng.Er.s ErrShape), ())))
            (
            Option.bind (g_soft_Result_0 N N op_0 ins_1 (([] : List Int), (false, ())) ins_1 (Nat.cast (List.length ins_1) : Int) (0 : Int)) fun y15 =>
            Sum.elim (fun y16 =>
              Option.bind (F_soft_looks N (y16).1 ((y16).2).1) fun y17 =>
              cond (Bool.not ((y17).2).1)
                (
                some ((([] : List Int), false), ((Go.Eng.Er.s ErrShape), ())))
                (
                cond (decide (((0 : Nat) + (List.length ((y17).1).1)) ≤ (List.length ((y17).1).1)))
                  (
                  Option.bind (F_shape_Valid N ((List.take (List.length ((y17).1).1) ((y17).1).1), (((y17).1).2).1)) fun y18 =>
                  cond (Bool.not (Go.Eng.Er.isNil (y18).1))
                    (
                    some ((([] : List Int), false), y18))
                    (
                    cond (decide (((0 : Nat) + (List.length ((y17).1).1)) ≤ (List.length ((y17).1).1)))
                      (
                      some (((List.take (List.length ((y17).1).1) ((y17).1).1), (((y17).1).2).1), (Go.Eng.Er.nil, ())))
                      (
                      none)))
                  (
                  none)))
              (fun y19 =>
              cond (decide (((0 : Nat) + (List.length ((y19).1).1)) ≤ (List.length ((y19).1).1)))
                (
                some (((List.take (List.length ((y19).1).1) ((y19).1).1), (((y19).1).2).1), (y19).2))
                (
                none)) y15))
          (
          some ((([] : List Int), false), ((Go.Eng.Er.s ErrKind), ()))))))

abbrev c_soft_Result (N : Nat) : CallSpec := ⟨34, ps_soft_Result, rs_soft_Result, fun x => F_soft_Result N x.1 x.2.1⟩
abbrev l_soft_Result_0 (N : Nat) : LoopSpec := ⟨0, h_soft_Result_0, e_soft_Result_0, fun x => g_soft_Result_0 N N x.1 x.2.1 x.2.2.1 x.2.2.2.1 x.2.2.2.2.1 x.2.2.2.2.2.1⟩

theorem cs_soft_Result_ok (S : Nat → Addr) (N : Nat) : CallsOK Go.Proofs.Tryd.prog E S (cs_soft_Result N) :=
  .cons (F_shape_Valid_ok S N) (.cons (F_soft_looks_ok S N) (.nil))
noncomputable abbrev b_soft_Result_0 : Code := (loopsOf b_soft_Result).getD 0 .skip
theorem g_soft_Result_0_ok (S : Nat → Addr) (N : Nat) : ∀ n x y, (fun (x : Val (slotsTy h_soft_Result_0)) => g_soft_Result_0 N n x.1 x.2.1 x.2.2.1 x.2.2.2.1 x.2.2.2.2.1 x.2.2.2.2.2.1) x = some y → LoopCon Go.Proofs.Tryd.prog E S b_soft_Result_0 (encSlots h_soft_Result_0 x) (encEx e_soft_Result_0 y).1 (encEx e_soft_Result_0 y).2 :=
  loop_spec E_ok mixed (cs_soft_Result_ok S N) (all := loopsOf b_soft_Result) (ls := []) (.nil) (i := 0) (by kernel_rfl) (inner_of (by kernel_rfl)) (head := h_soft_Result_0) (ex := e_soft_Result_0) (fun n (x : Val (slotsTy h_soft_Result_0)) => g_soft_Result_0 N n x.1 x.2.1 x.2.2.1 x.2.2.2.1 x.2.2.2.2.1 x.2.2.2.2.2.1) (fun _ => rfl) (fun n x => by kernel_rfl)
theorem F_soft_Result_ok (S : Nat → Addr) (N : Nat) : ∀ x y, (c_soft_Result N).g x = some y → FCon Go.Proofs.Tryd.prog E S 34 ps_soft_Result rs_soft_Result x y := by
  intro x y h
  exact fun_spec E_ok mixed (cs_soft_Result_ok S N) (f := 34) (fi := ⟨b_soft_Result, 58, Go.Proofs.Tryd.f34.results.toList⟩) (by kernel_rfl) (ls := [l_soft_Result_0 N]) (.cons (by kernel_rfl) (g_soft_Result_0_ok S N N) (.nil)) (by kernel_rfl) (ps := ps_soft_Result) (rs := rs_soft_Result) (Eq.trans (b := F_soft_Result N x.1 x.2.1) (by kernel_rfl) h)

/-! lodge/shape.fair -/

abbrev ps_shape_fair : List Ty := [(.sl (.int .i64))]
abbrev rs_shape_fair : List Slot := [.data .bool]
abbrev cs_shape_fair (N : Nat) : List CallSpec := [c_shape_Valid N]
noncomputable abbrev b_shape_fair : Code := (Go.Proofs.Tryd.f78.body).getD .skip

def F_shape_fair (N : Nat) (shape_0 : List Int) : Option (Bool × Unit) :=
  Option.bind (F_shape_Valid N (shape_0, false)) fun y0 =>
  some ((Go.Eng.Er.isNil (y0).1), ())

abbrev c_shape_fair (N : Nat) : CallSpec := ⟨78, ps_shape_fair, rs_shape_fair, fun x => F_shape_fair N x.1⟩

theorem cs_shape_fair_ok (S : Nat → Addr) (N : Nat) : CallsOK Go.Proofs.Tryd.prog E S (cs_shape_fair N) :=
  .cons (F_shape_Valid_ok S N) (.nil)
theorem F_shape_fair_ok (S : Nat → Addr) (N : Nat) : ∀ x y, (c_shape_fair N).g x = some y → FCon Go.Proofs.Tryd.prog E S 78 ps_shape_fair rs_shape_fair x y := by
  intro x y h
  exact fun_spec E_ok mixed (cs_shape_fair_ok S N) (f := 78) (fi := ⟨b_shape_fair, 7, Go.Proofs.Tryd.f78.results.toList⟩) (by kernel_rfl) (ls := []) (.nil) (by kernel_rfl) (ps := ps_shape_fair) (rs := rs_shape_fair) (Eq.trans (b := F_shape_fair N x.1) (by kernel_rfl) h)

/-! lodge/shape.Elems -/

abbrev ps_shape_Elems : List Ty := [(.sl (.int .i64))]
abbrev rs_shape_Elems : List Slot := [.data (.int .i64)]
abbrev cs_shape_Elems (N : Nat) : List CallSpec := [c_shape_fair N]
noncomputable abbrev b_shape_Elems : Code := (Go.Proofs.Tryd.f56.body).getD .skip

abbrev h_shape_Elems_0 : List Slot := [.dead, .dead, .dead, .data (.int .i64), .dead, .dead, .dead, .dead, .dead, .data (.sl (.int .i64)), .data (.int .i64), .data (.int .i64), .dead, .dead, .dead, .dead, .dead, .dead, .dead, .dead]
abbrev e_shape_Elems_0 : List (AX × List Slot) := [(AX.exit 0, [.dead, .dead, .dead, .data (.int .i64), .dead, .dead, .dead, .dead, .dead, .dead, .dead, .dead, .dead, .dead, .dead, .dead, .dead, .dead, .dead, .dead])]
def g_shape_Elems_0 (N : Nat) : Nat → Int → List Int → Int → Int → Option (Int × Unit)
  | 0, _, _, _, _ => none
  | n + 1, n_3, t_9, t_10, t_11 =>
    cond (decide (t_11 < t_10))
      (
      cond (decide ((0 : Int) ≤ t_11))
        (
        cond (decide ((Int.toNat t_11) < (List.length t_9)))
          (
          (g_shape_Elems_0 N n (wi64 (n_3 * (List.getD t_9 (Int.toNat t_11) (0 : Int)))) t_9 t_10 (wi64 (t_11 + (1 : Int)))))
          (
          none))
        (
        none))
      (
      some (n_3, ()))

def F_shape_Elems (N : Nat) (shape_0 : List Int) : Option (Int × Unit) :=
  Option.bind (F_shape_fair N shape_0) fun y0 =>
  cond (Bool.not (y0).1)
    (
    some ((0 : Int), ()))
    (
    Option.bind (g_shape_Elems_0 N N (1 : Int) shape_0 (Nat.cast (List.length shape_0) : Int) (0 : Int)) fun y1 =>
    some y1)

abbrev c_shape_Elems (N : Nat) : CallSpec := ⟨56, ps_shape_Elems, rs_shape_Elems, fun x => F_shape_Elems N x.1⟩
abbrev l_shape_Elems_0 (N : Nat) : LoopSpec := ⟨0, h_shape_Elems_0, e_shape_Elems_0, fun x => g_shape_Elems_0 N N x.1 x.2.1 x.2.2.1 x.2.2.2.1⟩

theorem cs_shape_Elems_ok (S : Nat → Addr) (N : Nat) : CallsOK Go.Proofs.Tryd.prog E S (cs_shape_Elems N) :=
  .cons (F_shape_fair_ok S N) (.nil)
noncomputable abbrev b_shape_Elems_0 : Code := (loopsOf b_shape_Elems).getD 0 .skip
theorem g_shape_Elems_0_ok (S : Nat → Addr) (N : Nat) : ∀ n x y, (fun (x : Val (slotsTy h_shape_Elems_0)) => g_shape_Elems_0 N n x.1 x.2.1 x.2.2.1 x.2.2.2.1) x = some y → LoopCon Go.Proofs.Tryd.prog E S b_shape_Elems_0 (encSlots h_shape_Elems_0 x) (encEx e_shape_Elems_0 y).1 (encEx e_shape_Elems_0 y).2 :=
  loop_spec E_ok mixed (cs_shape_Elems_ok S N) (all := loopsOf b_shape_Elems) (ls := []) (.nil) (i := 0) (by kernel_rfl) (inner_of (by kernel_rfl)) (head := h_shape_Elems_0) (ex := e_shape_Elems_0) (fun n (x : Val (slotsTy h_shape_Elems_0)) => g_shape_Elems_0 N n x.1 x.2.1 x.2.2.1 x.2.2.2.1) (fun _ => rfl) (fun n x => by kernel_rfl)
theorem F_shape_Elems_ok (S : Nat → Addr) (N : Nat) : ∀ x y, (c_shape_Elems N).g x = some y → FCon Go.Proofs.Tryd.prog E S 56 ps_shape_Elems rs_shape_Elems x y := by
  intro x y h
  exact fun_spec E_ok mixed (cs_shape_Elems_ok S N) (f := 56) (fi := ⟨b_shape_Elems, 20, Go.Proofs.Tryd.f56.results.toList⟩) (by kernel_rfl) (ls := [l_shape_Elems_0 N]) (.cons (by kernel_rfl) (g_shape_Elems_0_ok S N N) (.nil)) (by kernel_rfl) (ps := ps_shape_Elems) (rs := rs_shape_Elems) (Eq.trans (b := F_shape_Elems N x.1) (by kernel_rfl) h)

/-! lodge/op.reshape -/

abbrev ps_op_reshape : List Ty := [(.sl (.int .i64)), (.st (.pair (.sl (.int .i64)) .bool))]
abbrev rs_op_reshape : List Slot := [.data (.st (.pair (.sl (.int .i64)) .bool)), .data .err]
abbrev cs_op_reshape (N : Nat) : List CallSpec := [c_shape_Valid N, c_slices_Clone_int_int N, c_shape_Elems N]
noncomputable abbrev b_op_reshape : Code := (Go.Proofs.Tryd.f35.body).getD .skip

abbrev h_op_reshape_0 : List Slot := [.data (.sl (.int .i64)), .dead, .dead, .box [.d (.st (.pair (.sl (.int .i64)) .bool))], .box [.sl (.int .i64), .d .bool], .dead, .box [.d (.st (.pair (.sl (.int .i64)) .bool))], .dead, .dead, .dead, .dead, .dead, .dead, .dead, .dead, .dead, .dead, .sl (.st (.pair (.sl (.int .i64)) .bool)), .data (.int .i64), .data (.int .i64), .dead, .dead, .dead, .dead, .dead, .dead, .dead, .dead, .dead, .dead, .dead, .dead, .dead, .dead, .dead, .dead, .dead, .dead, .dead]
abbrev e_op_reshape_0 : List (AX × List Slot) := [(AX.exit 0, [.data (.sl (.int .i64)), .dead, .dead, .box [.d (.st (.pair (.sl (.int .i64)) .bool))], .box [.sl (.int .i64), .d .bool], .dead, .box [.d (.st (.pair (.sl (.int .i64)) .bool))], .dead, .dead, .dead, .dead, .dead, .dead, .dead, .dead, .dead, .dead, .dead, .dead, .dead, .dead, .dead, .dead, .dead, .dead, .dead, .dead, .dead, .dead, .dead, .dead, .dead, .dead, .dead, .dead, .dead, .dead, .dead, .dead]), (AX.ret, [.dead, .dead, .dead, .dead, .box [.sl (.int .i64), .d .bool], .data .err, .dead, .dead, .dead, .dead, .dead, .dead, .dead, .dead, .dead, .dead, .dead, .dead, .dead, .dead, .dead, .dead, .dead, .dead, .dead, .dead, .dead, .dead, .dead, .dead, .dead, .dead, .dead, .dead, .dead, .dead, .dead, .dead, .dead])]
def g_op_reshape_0 (N : Nat) : Nat → List Int → ((List Int × Bool) × Unit) → (List Int × (Bool × Unit)) → ((List Int × Bool) × Unit) → List ((List Int × Bool)) → Int → Int → Option (Sum (List Int × (((List Int × Bool) × Unit) × ((List Int × (Bool × Unit)) × (((List Int × Bool) × Unit) × Unit)))) ((List Int × (Bool × Unit)) × (Er × Unit)))
  | 0, _, _, _, _, _, _, _ => none
  | n + 1, args_0, a_3, t_4, d_6, t_17, t_18, t_19 =>
    cond (decide (t_19 < t_18))
      (
      cond (decide ((0 : Int) ≤ t_19))
        (
        cond (decide ((Int.toNat t_19) < (List.length t_17)))
          (
          cond (decide (((0 : Nat) + (Int.toNat t_19)) < (List.length t_17)))
            (
            Option.bind (F_shape_Valid N (List.getD t_17 ((0 : Nat) + (Int.toNat t_19)) (([] : List Int), false))) fun y2 =>
            cond (Bool.not (Go.Eng.Er.isNil (y2).1))
              (
              some (Sum.inr ((([] : List Int), (false, ())), y2)))
              (
              cond (decide ((List.length (t_4).1) = (List.length (t_4).1)))
                (
                cond (decide ((List.length t_17) = (List.length t_17)))
                  (
                  (g_op_reshape_0 N n args_0 a_3 t_4 d_6 t_17 t_18 (wi64 (t_19 + (1 : Int)))))
                  (
                  none))
                (
                none)))
            (
            none))
          (
          none))
        (
        none))
      (
      cond (decide ((List.length (t_4).1) = (List.length (t_4).1)))
        (
        some (Sum.inl (args_0, (a_3, (t_4, (d_6, ()))))))
        (
        none))

def F_op_reshape (N : Nat) (args_0 : List Int) (a_1 : (List Int × Bool)) : Option ((List Int × Bool) × (Er × Unit)) :=
  Option.bind (F_slices_Clone_int_int N args_0) fun y0 =>
  cond (decide (((0 : Nat) + (List.length (y0).1)) ≤ (List.length (y0).1)))
    (
    cond (decide (((0 : Nat) + (List.length (y0).1)) ≤ (List.length (y0).1)))
      (
      cond (decide (((0 : Nat) + (List.length (y0).1)) ≤ (List.length (y0).1)))
        (
        Option.bind (g_op_reshape_0 N N args_0 (a_1, ()) (([] : List Int), (false, ())) (((List.take (List.length (y0).1) (y0).1), (a_1).2), ()) (a_1 :: (((List.take (List.length (y0).1) (y0).1), (a_1).2) :: ([] : List ((List Int) × Bool)))) (Nat.cast (2 : Nat) : Int) (0 : Int)) fun y1 =>
        Sum.elim (fun y2 =>
          Option.bind (F_shape_Elems N ((((y2).2).1).1).1) fun y3 =>
          Option.bind (F_shape_Elems N (y2).1) fun y4 =>
          cond (decide (@Ne Int (y3).1 (y4).1))
            (
            some ((([] : List Int), false), ((Go.Eng.Er.s ErrShape), ())))
            (
            some ((((((y2).2).2).2).1).1, (Go.Eng.Er.nil, ()))))
          (fun y5 =>
          cond (decide (((0 : Nat) + (List.length ((y5).1).1)) ≤ (List.length ((y5).1).1)))
            (
            some (((List.take (List.length ((y5).1).1) ((y5).1).1), (((y5).1).2).1), (y5).2))
            (
            none)) y1)
        (
        none))
      (
      none))
    (
    none)

abbrev c_op_reshape (N : Nat) : CallSpec := ⟨35, ps_op_reshape, rs_op_reshape, fun x => F_op_reshape N x.1 x.2.1⟩
abbrev l_op_reshape_0 (N : Nat) : LoopSpec := ⟨0, h_op_reshape_0, e_op_reshape_0, fun x => g_op_reshape_0 N N x.1 x.2.1 x.2.2.1 x.2.2.2.1 x.2.2.2.2.1 x.2.2.2.2.2.1 x.2.2.2.2.2.2.1⟩

theorem cs_op_reshape_ok (S : Nat → Addr) (N : Nat) : CallsOK Go.Proofs.Tryd.prog E S (cs_op_reshape N) :=
  .cons (F_shape_Valid_ok S N) (.cons (F_slices_Clone_int_int_ok S N) (.cons (F_shape_Elems_ok S N) (.nil)))
noncomputable abbrev b_op_reshape_0 : Code := (loopsOf b_op_reshape).getD 0 .skip
theorem g_op_reshape_0_ok (S : Nat → Addr) (N : Nat) : ∀ n x y, (fun (x : Val (slotsTy h_op_reshape_0)) => g_op_reshape_0 N n x.1 x.2.1 x.2.2.1 x.2.2.2.1 x.2.2.2.2.1 x.2.2.2.2.2.1 x.2.2.2.2.2.2.1) x = some y → LoopCon Go.Proofs.Tryd.prog E S b_op_reshape_0 (encSlots h_op_reshape_0 x) (encEx e_op_reshape_0 y).1 (encEx e_op_reshape_0 y).2 :=
  loop_spec E_ok mixed (cs_op_reshape_ok S N) (all := loopsOf b_op_reshape) (ls := []) (.nil) (i := 0) (by kernel_rfl) (inner_of (by kernel_rfl)) (head := h_op_reshape_0) (ex := e_op_reshape_0) (fun n (x : Val (slotsTy h_op_reshape_0)) => g_op_reshape_0 N n x.1 x.2.1 x.2.2.1 x.2.2.2.1 x.2.2.2.2.1 x.2.2.2.2.2.1 x.2.2.2.2.2.2.1) (fun _ => rfl) (fun n x => by kernel_rfl)
theorem F_op_reshape_ok (S : Nat → Addr) (N : Nat) : ∀ x y, (c_op_reshape N).g x = some y → FCon Go.Proofs.Tryd.prog E S 35 ps_op_reshape rs_op_reshape x y := by
  intro x y h
  exact fun_spec E_ok mixed (cs_op_reshape_ok S N) (f := 35) (fi := ⟨b_op_reshape, 39, Go.Proofs.Tryd.f35.results.toList⟩) (by kernel_rfl) (ls := [l_op_reshape_0 N]) (.cons (by kernel_rfl) (g_op_reshape_0_ok S N N) (.nil)) (by kernel_rfl) (ps := ps_op_reshape) (rs := rs_op_reshape) (Eq.trans (b := F_op_reshape N x.1 x.2.1) (by kernel_rfl) h)

/-! lodge/op.turn -/

abbrev ps_op_turn : List Ty := [(.st (.pair (.sl (.int .i64)) .bool))]
abbrev rs_op_turn : List Slot := [.ag [.sl (.int .i64), .d .bool], .data .err]
abbrev cs_op_turn (N : Nat) : List CallSpec := [c_shape_Valid N]
noncomputable abbrev b_op_turn : Code := (Go.Proofs.Tryd.f36.body).getD .skip

def F_op_turn (N : Nat) (a_0 : (List Int × Bool)) : Option ((List Int × (Bool × Unit)) × (Er × Unit)) :=
  Option.bind (F_shape_Valid N a_0) fun y0 =>
  cond (Bool.not (Go.Eng.Er.isNil (y0).1))
    (
    some ((([] : List Int), (false, ())), y0))
    (
    cond (decide (@Ne Int (Nat.cast (List.length (a_0).1) : Int) (2 : Int)))
      (
      some ((([] : List Int), (false, ())), ((Go.Eng.Er.s ErrShape), ())))
      (
      cond (decide (1 < (List.length (a_0).1)))
        (
        cond (decide (0 < (List.length (a_0).1)))
          (
          some ((((List.getD (a_0).1 1 (0 : Int)) :: ((List.getD (a_0).1 0 (0 : Int)) :: ([] : List Int))), ((a_0).2, ())), (Go.Eng.Er.nil, ())))
          (
          none))
        (
        none)))

abbrev c_op_turn (N : Nat) : CallSpec := ⟨36, ps_op_turn, rs_op_turn, fun x => F_op_turn N x.1⟩

theorem cs_op_turn_ok (S : Nat → Addr) (N : Nat) : CallsOK Go.Proofs.Tryd.prog E S (cs_op_turn N) :=
  .cons (F_shape_Valid_ok S N) (.nil)
theorem F_op_turn_ok (S : Nat → Addr) (N : Nat) : ∀ x y, (c_op_turn N).g x = some y → FCon Go.Proofs.Tryd.prog E S 36 ps_op_turn rs_op_turn x y := by
  intro x y h
  exact fun_spec E_ok mixed (cs_op_turn_ok S N) (f := 36) (fi := ⟨b_op_turn, 29, Go.Proofs.Tryd.f36.results.toList⟩) (by kernel_rfl) (ls := []) (.nil) (by kernel_rfl) (ps := ps_op_turn) (rs := rs_op_turn) (Eq.trans (b := F_op_turn N x.1) (by kernel_rfl) h)

/-! lodge/elem.counts -/

abbrev ps_elem_counts : List Ty := [(.int .i64)]
abbrev rs_elem_counts : List Slot := [.data (.int .i64), .data (.int .i64), .data .bool]
abbrev cs_elem_counts (N : Nat) : List CallSpec := []
noncomputable abbrev b_elem_counts : Code := (Go.Proofs.Tryd.f66.body).getD .skip

def F_elem_counts (N : Nat) (op_0 : Int) : Option (Int × (Int × (Bool × Unit))) :=
  cond (decide (op_0 = (4 : Int)))
    (
    some ((2 : Int), ((0 : Int), (true, ()))))
    (
    cond (decide (op_0 = (5 : Int)))
      (
      some ((2 : Int), ((0 : Int), (true, ()))))
      (
      cond (decide (op_0 = (6 : Int)))
        (
        some ((2 : Int), ((0 : Int), (true, ()))))
        (
        cond (decide (op_0 = (7 : Int)))
          (
          some ((2 : Int), ((0 : Int), (true, ()))))
          (
          cond (decide (op_0 = (8 : Int)))
            (
            some ((1 : Int), ((0 : Int), (true, ()))))
            (
            cond (decide (op_0 = (9 : Int)))
              (
              some ((1 : Int), ((2 : Int), (true, ()))))
              (
              cond (decide (op_0 = (10 : Int)))
                (
                some ((1 : Int), ((3 : Int), (true, ()))))
                (
                cond (decide (op_0 = (11 : Int)))
                  (
                  some ((1 : Int), ((1 : Int), (true, ()))))
                  (
                  some ((0 : Int), ((0 : Int), (false, ())))))))))))

abbrev c_elem_counts (N : Nat) : CallSpec := ⟨66, ps_elem_counts, rs_elem_counts, fun x => F_elem_counts N x.1⟩

theorem cs_elem_counts_ok (S : Nat → Addr) (N : Nat) : CallsOK Go.Proofs.Tryd.prog E S (cs_elem_counts N) :=
  .nil
theorem F_elem_counts_ok (S : Nat → Addr) (N : Nat) : ∀ x y, (c_elem_counts N).g x = some y → FCon Go.Proofs.Tryd.prog E S 66 ps_elem_counts rs_elem_counts x y := by
  intro x y h
  exact fun_spec E_ok mixed (cs_elem_counts_ok S N) (f := 66) (fi := ⟨b_elem_counts, 19, Go.Proofs.Tryd.f66.results.toList⟩) (by kernel_rfl) (ls := []) (.nil) (by kernel_rfl) (ps := ps_elem_counts) (rs := rs_elem_counts) (Eq.trans (b := F_elem_counts N x.1) (by kernel_rfl) h)


end Go.Proofs.YtnblnlanicpagaaDoor.Lg
