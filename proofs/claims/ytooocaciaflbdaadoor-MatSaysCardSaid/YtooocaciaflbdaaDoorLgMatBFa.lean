/-
  The functions of the seat's program, as plain functions.
-/
import Derived.Test.YtooocaciaflbdaaDoorLgMatBE
namespace Go.Proofs.YtooocaciaflbdaaDoor.Lg
open Go Go.Eng Go.Proofs
set_option maxRecDepth 100000

/-! lodge/shape.Valid -/

abbrev ps_shape_Valid : List Ty := [(.st (.pair (.sl (.int .i64)) .bool))]
abbrev rs_shape_Valid : List Slot := [.data .err]
abbrev cs_shape_Valid (N : Nat) : List CallSpec := []
noncomputable abbrev b_shape_Valid : Code := (Go.Proofs.Tryd.f42.body).getD .skip

abbrev h_shape_Valid_0 : List Slot := [.dead, .box [.d (.st (.pair (.sl (.int .i64)) .bool))], .dead, .data (.int .i64), .dead, .dead, .dead, .dead, .dead, .dead, .dead, .dead, .dead, .dead, .data (.sl (.int .i64)), .data (.int .i64), .data (.int .i64), .dead, .dead, .dead, .dead, .dead, .dead, .dead, .dead, .dead, .dead, .dead, .dead, .dead, .dead, .dead, .dead, .dead, .dead, .dead, .dead, .dead, .dead, .dead, .dead, .dead]
abbrev e_shape_Valid_0 : List (AX × List Slot) := [(AX.exit 0, [.dead, .box [.d (.st (.pair (.sl (.int .i64)) .bool))], .dead, .data (.int .i64), .dead, .dead, .dead, .dead, .dead, .dead, .dead, .dead, .dead, .dead, .dead, .dead, .dead, .dead, .dead, .dead, .dead, .dead, .dead, .dead, .dead, .dead, .dead, .dead, .dead, .dead, .dead, .dead, .dead, .dead, .dead, .dead, .dead, .dead, .dead, .dead, .dead, .dead]), (AX.ret, [.dead, .dead, .data .err, .dead, .dead, .dead, .dead, .dead, .dead, .dead, .dead, .dead, .dead, .dead, .dead, .dead, .dead, .dead, .dead, .dead, .dead, .dead, .dead, .dead, .dead, .dead, .dead, .dead, .dead, .dead, .dead, .dead, .dead, .dead, .dead, .dead, .dead, .dead, .dead, .dead, .dead, .dead])]
def g_shape_Valid_0 (N : Nat) : Nat → ((List Int × Bool) × Unit) → Int → List Int → Int → Int → Option (Sum (((List Int × Bool) × Unit) × (Int × Unit)) (Er × Unit))
  | 0, _, _, _, _, _ => none
  | n + 1, d_1, n_3, t_14, t_15, t_16 =>
    cond (decide (t_16 < t_15))
      (
      cond (decide ((0 : Int) ≤ t_16))
        (
        cond (decide ((Int.toNat t_16) < (List.length t_14)))
          (
          cond (decide ((List.getD t_14 (Int.toNat t_16) (0 : Int)) < (1 : Int)))
            (
            some (Sum.inr ((Go.Eng.Er.s ErrRange), ())))
            (
            cond (decide ((256 : Int) < (List.getD t_14 (Int.toNat t_16) (0 : Int))))
              (
              some (Sum.inr ((Go.Eng.Er.s ErrRange), ())))
              (
              (g_shape_Valid_0 N n d_1 n_3 t_14 t_15 (wi64 (t_16 + (1 : Int)))))))
          (
          none))
        (
        none))
      (
      some (Sum.inl (d_1, (n_3, ()))))

abbrev h_shape_Valid_1 : List Slot := [.dead, .dead, .dead, .data (.int .i64), .dead, .dead, .dead, .dead, .dead, .dead, .dead, .dead, .dead, .dead, .dead, .dead, .dead, .dead, .dead, .dead, .dead, .dead, .dead, .dead, .dead, .dead, .dead, .dead, .dead, .data (.sl (.int .i64)), .data (.int .i64), .data (.int .i64), .dead, .dead, .dead, .dead, .dead, .dead, .dead, .dead, .dead, .dead]
abbrev e_shape_Valid_1 : List (AX × List Slot) := [(AX.exit 2, [.dead, .dead, .dead, .dead, .dead, .dead, .dead, .dead, .dead, .dead, .dead, .dead, .dead, .dead, .dead, .dead, .dead, .dead, .dead, .dead, .dead, .dead, .dead, .dead, .dead, .dead, .dead, .dead, .dead, .dead, .dead, .dead, .dead, .dead, .dead, .dead, .dead, .dead, .dead, .dead, .dead, .dead]), (AX.ret, [.dead, .dead, .data .err, .dead, .dead, .dead, .dead, .dead, .dead, .dead, .dead, .dead, .dead, .dead, .dead, .dead, .dead, .dead, .dead, .dead, .dead, .dead, .dead, .dead, .dead, .dead, .dead, .dead, .dead, .dead, .dead, .dead, .dead, .dead, .dead, .dead, .dead, .dead, .dead, .dead, .dead, .dead])]
def g_shape_Valid_1 (N : Nat) : Nat → Int → List Int → Int → Int → Option (Sum Unit (Er × Unit))
  | 0, _, _, _, _ => none
  | n + 1, n_3, t_29, t_30, t_31 =>
    cond (decide (t_31 < t_30))
      (
      cond (decide ((0 : Int) ≤ t_31))
        (
        cond (decide ((Int.toNat t_31) < (List.length t_29)))
          (
          cond (decide ((16384 : Int) < (wi64 (n_3 * (List.getD t_29 (Int.toNat t_31) (0 : Int))))))
            (
            some (Sum.inr ((Go.Eng.Er.s ErrMany), ())))
            (
            (g_shape_Valid_1 N n (wi64 (n_3 * (List.getD t_29 (Int.toNat t_31) (0 : Int)))) t_29 t_30 (wi64 (t_31 + (1 : Int))))))
          (
          none))
        (
        none))
      (
      some (Sum.inl ()))

def F_shape_Valid (N : Nat) (d_0 : (List Int × Bool)) : Option (Er × Unit) :=
  cond (decide ((4 : Int) < (Nat.cast (List.length (d_0).1) : Int)))
    (
    some ((Go.Eng.Er.s ErrMany), ()))
    (
    Option.bind (g_shape_Valid_0 N N (d_0, ()) (1 : Int) (d_0).1 (Nat.cast (List.length (d_0).1) : Int) (0 : Int)) fun y0 =>
    Sum.elim (fun y1 =>
      Option.bind (g_shape_Valid_1 N N ((y1).2).1 (((y1).1).1).1 (Nat.cast (List.length (((y1).1).1).1) : Int) (0 : Int)) fun y2 =>
      Sum.elim (fun y3 =>
        some (Go.Eng.Er.nil, ()))
        (fun y4 =>
        some y4) y2)
      (fun y5 =>
      some y5) y0)

abbrev c_shape_Valid (N : Nat) : CallSpec := ⟨42, ps_shape_Valid, rs_shape_Valid, fun x => F_shape_Valid N x.1⟩
abbrev l_shape_Valid_1 (N : Nat) : LoopSpec := ⟨1, h_shape_Valid_1, e_shape_Valid_1, fun x => g_shape_Valid_1 N N x.1 x.2.1 x.2.2.1 x.2.2.2.1⟩
abbrev l_shape_Valid_0 (N : Nat) : LoopSpec := ⟨0, h_shape_Valid_0, e_shape_Valid_0, fun x => g_shape_Valid_0 N N x.1 x.2.1 x.2.2.1 x.2.2.2.1 x.2.2.2.2.1⟩

theorem cs_shape_Valid_ok (S : Nat → Addr) (N : Nat) : CallsOK Go.Proofs.Tryd.prog E S (cs_shape_Valid N) :=
  .nil
noncomputable abbrev b_shape_Valid_1 : Code := (loopsOf b_shape_Valid).getD 1 .skip
theorem g_shape_Valid_1_ok (S : Nat → Addr) (N : Nat) : ∀ n x y, (fun (x : Val (slotsTy h_shape_Valid_1)) => g_shape_Valid_1 N n x.1 x.2.1 x.2.2.1 x.2.2.2.1) x = some y → LoopCon Go.Proofs.Tryd.prog E S b_shape_Valid_1 (encSlots h_shape_Valid_1 x) (encEx e_shape_Valid_1 y).1 (encEx e_shape_Valid_1 y).2 :=
  loop_spec E_ok mixed (cs_shape_Valid_ok S N) (all := loopsOf b_shape_Valid) (ls := []) (.nil) (i := 1) (by kernel_rfl) (inner_of (by kernel_rfl)) (head := h_shape_Valid_1) (ex := e_shape_Valid_1) (fun n (x : Val (slotsTy h_shape_Valid_1)) => g_shape_Valid_1 N n x.1 x.2.1 x.2.2.1 x.2.2.2.1) (fun _ => rfl) (fun n x => by kernel_rfl)
noncomputable abbrev b_shape_Valid_0 : Code := (loopsOf b_shape_Valid).getD 0 .skip
theorem g_shape_Valid_0_ok (S : Nat → Addr) (N : Nat) : ∀ n x y, (fun (x : Val (slotsTy h_shape_Valid_0)) => g_shape_Valid_0 N n x.1 x.2.1 x.2.2.1 x.2.2.2.1 x.2.2.2.2.1) x = some y → LoopCon Go.Proofs.Tryd.prog E S b_shape_Valid_0 (encSlots h_shape_Valid_0 x) (encEx e_shape_Valid_0 y).1 (encEx e_shape_Valid_0 y).2 :=
  loop_spec E_ok mixed (cs_shape_Valid_ok S N) (all := loopsOf b_shape_Valid) (ls := []) (.nil) (i := 0) (by kernel_rfl) (inner_of (by kernel_rfl)) (head := h_shape_Valid_0) (ex := e_shape_Valid_0) (fun n (x : Val (slotsTy h_shape_Valid_0)) => g_shape_Valid_0 N n x.1 x.2.1 x.2.2.1 x.2.2.2.1 x.2.2.2.2.1) (fun _ => rfl) (fun n x => by kernel_rfl)
theorem F_shape_Valid_ok (S : Nat → Addr) (N : Nat) : ∀ x y, (c_shape_Valid N).g x = some y → FCon Go.Proofs.Tryd.prog E S 42 ps_shape_Valid rs_shape_Valid x y := by
  intro x y h
  exact fun_spec E_ok mixed (cs_shape_Valid_ok S N) (f := 42) (fi := ⟨b_shape_Valid, 42, Go.Proofs.Tryd.f42.results.toList⟩) (by kernel_rfl) (ls := [l_shape_Valid_1 N, l_shape_Valid_0 N]) (.cons (by kernel_rfl) (g_shape_Valid_1_ok S N N) (.cons (by kernel_rfl) (g_shape_Valid_0_ok S N N) (.nil))) (by kernel_rfl) (ps := ps_shape_Valid) (rs := rs_shape_Valid) (Eq.trans (b := F_shape_Valid N x.1) (by kernel_rfl) h)

/-! lodge/shape.fair -/

abbrev ps_shape_fair : List Ty := [(.sl (.int .i64))]
abbrev rs_shape_fair : List Slot := [.data .bool]
abbrev cs_shape_fair (N : Nat) : List CallSpec := [c_shape_Valid N]
noncomputable abbrev b_shape_fair : Code := (Go.Proofs.Tryd.f51.body).getD .skip

def F_shape_fair (N : Nat) (shape_0 : List Int) : Option (Bool × Unit) :=
  Option.bind (F_shape_Valid N (shape_0, false)) fun y0 =>
  some ((Go.Eng.Er.isNil (y0).1), ())

abbrev c_shape_fair (N : Nat) : CallSpec := ⟨51, ps_shape_fair, rs_shape_fair, fun x => F_shape_fair N x.1⟩

theorem cs_shape_fair_ok (S : Nat → Addr) (N : Nat) : CallsOK Go.Proofs.Tryd.prog E S (cs_shape_fair N) :=
  .cons (F_shape_Valid_ok S N) (.nil)
theorem F_shape_fair_ok (S : Nat → Addr) (N : Nat) : ∀ x y, (c_shape_fair N).g x = some y → FCon Go.Proofs.Tryd.prog E S 51 ps_shape_fair rs_shape_fair x y := by
  intro x y h
  exact fun_spec E_ok mixed (cs_shape_fair_ok S N) (f := 51) (fi := ⟨b_shape_fair, 7, Go.Proofs.Tryd.f51.results.toList⟩) (by kernel_rfl) (ls := []) (.nil) (by kernel_rfl) (ps := ps_shape_fair) (rs := rs_shape_fair) (Eq.trans (b := F_shape_fair N x.1) (by kernel_rfl) h)

/-! lodge/shape.Elems -/

abbrev ps_shape_Elems : List Ty := [(.sl (.int .i64))]
abbrev rs_shape_Elems : List Slot := [.data (.int .i64)]
abbrev cs_shape_Elems (N : Nat) : List CallSpec := [c_shape_fair N]
noncomputable abbrev b_shape_Elems : Code := (Go.Proofs.Tryd.f27.body).getD .skip

abbrev h_shape_Elems_0 : List Slot := [.dead, .dead, .dead, .data (.int .i64), .dead, .dead, .dead, .dead, .dead, .data (.sl (.int .i64)), .data (.int .i64), .data (.int .i64), .dead, .dead, .dead, .dead, .dead, .dead, .dead, .dead]
abbrev e_shape_Elems_0 : List (AX × List Slot) := [(AX.exit 0, [.dead, .dead, .dead, .data (.int .i64), .dead, .dead, .dead, .dead, .dead, .dead, .dead, .dead, .dead, .dead, .dead, .dead, .dead, .dead, .dead, .dead])]
def g_shape_Elems_0 (N : Nat) : Nat → Int → List Int → Int → Int → Option (Int × Unit)
  | 0, _, _, _, _ => none
  | n + 1, n_3, t_9, t_10, t_11 =>
    cond (decide (t_11 < t_10))
      (
      cond (decide ((0 : Int) ≤ t_11))
        (
        cond (decide ((Int.toNat t_11) < (List.length t_9)))
          (
          (g_shape_Elems_0 N n (wi64 (n_3 * (List.getD t_9 (Int.toNat t_11) (0 : Int)))) t_9 t_10 (wi64 (t_11 + (1 : Int)))))
          (
          none))
        (
        none))
      (
      some (n_3, ()))

def F_shape_Elems (N : Nat) (shape_0 : List Int) : Option (Int × Unit) :=
  Option.bind (F_shape_fair N shape_0) fun y0 =>
  cond (Bool.not (y0).1)
    (
    some ((0 : Int), ()))
    (
    Option.bind (g_shape_Elems_0 N N (1 : Int) shape_0 (Nat.cast (List.length shape_0) : Int) (0 : Int)) fun y1 =>
    some y1)

abbrev c_shape_Elems (N : Nat) : CallSpec := ⟨27, ps_shape_Elems, rs_shape_Elems, fun x => F_shape_Elems N x.1⟩
abbrev l_shape_Elems_0 (N : Nat) : LoopSpec := ⟨0, h_shape_Elems_0, e_shape_Elems_0, fun x => g_shape_Elems_0 N N x.1 x.2.1 x.2.2.1 x.2.2.2.1⟩

theorem cs_shape_Elems_ok (S : Nat → Addr) (N : Nat) : CallsOK Go.Proofs.Tryd.prog E S (cs_shape_Elems N) :=
  .cons (F_shape_fair_ok S N) (.nil)
noncomputable abbrev b_shape_Elems_0 : Code := (loopsOf b_shape_Elems).getD 0 .skip
theorem g_shape_Elems_0_ok (S : Nat → Addr) (N : Nat) : ∀ n x y, (fun (x : Val (slotsTy h_shape_Elems_0)) => g_shape_Elems_0 N n x.1 x.2.1 x.2.2.1 x.2.2.2.1) x = some y → LoopCon Go.Proofs.Tryd.prog E S b_shape_Elems_0 (encSlots h_shape_Elems_0 x) (encEx e_shape_Elems_0 y).1 (encEx e_shape_Elems_0 y).2 :=
  loop_spec E_ok mixed (cs_shape_Elems_ok S N) (all := loopsOf b_shape_Elems) (ls := []) (.nil) (i := 0) (by kernel_rfl) (inner_of (by kernel_rfl)) (head := h_shape_Elems_0) (ex := e_shape_Elems_0) (fun n (x : Val (slotsTy h_shape_Elems_0)) => g_shape_Elems_0 N n x.1 x.2.1 x.2.2.1 x.2.2.2.1) (fun _ => rfl) (fun n x => by kernel_rfl)
theorem F_shape_Elems_ok (S : Nat → Addr) (N : Nat) : ∀ x y, (c_shape_Elems N).g x = some y → FCon Go.Proofs.Tryd.prog E S 27 ps_shape_Elems rs_shape_Elems x y := by
  intro x y h
  exact fun_spec E_ok mixed (cs_shape_Elems_ok S N) (f := 27) (fi := ⟨b_shape_Elems, 20, Go.Proofs.Tryd.f27.results.toList⟩) (by kernel_rfl) (ls := [l_shape_Elems_0 N]) (.cons (by kernel_rfl) (g_shape_Elems_0_ok S N N) (.nil)) (by kernel_rfl) (ps := ps_shape_Elems) (rs := rs_shape_Elems) (Eq.trans (b := F_shape_Elems N x.1) (by kernel_rfl) h)

/-! lodge/tens.fits -/

abbrev ps_tens_fits : List Ty := [(.int .i64), .bool]
abbrev rs_tens_fits : List Slot := [.data .bool]
abbrev cs_tens_fits (N : Nat) : List CallSpec := []
noncomputable abbrev b_tens_fits : Code := (Go.Proofs.Tryd.f52.body).getD .skip

def F_tens_fits (N : Nat) (n_0 : Int) (wide_1 : Bool) : Option (Bool × Unit) :=
  cond wide_1
    (
    cond (decide ((-(2147483648 : Int)) ≤ n_0))
      (
      some ((decide (n_0 ≤ (2147483647 : Int))), ()))
      (
      some (false, ())))
    (
    cond (decide ((-(128 : Int)) ≤ n_0))
      (
      some ((decide (n_0 ≤ (127 : Int))), ()))
      (
      some (false, ())))

abbrev c_tens_fits (N : Nat) : CallSpec := ⟨52, ps_tens_fits, rs_tens_fits, fun x => F_tens_fits N x.1 x.2.1⟩

theorem cs_tens_fits_ok (S : Nat → Addr) (N : Nat) : CallsOK Go.Proofs.Tryd.prog E S (cs_tens_fits N) :=
  .nil
theorem F_tens_fits_ok (S : Nat → Addr) (N : Nat) : ∀ x y, (c_tens_fits N).g x = some y → FCon Go.Proofs.Tryd.prog E S 52 ps_tens_fits rs_tens_fits x y := by
  intro x y h
  exact fun_spec E_ok mixed (cs_tens_fits_ok S N) (f := 52) (fi := ⟨b_tens_fits, 18, Go.Proofs.Tryd.f52.results.toList⟩) (by kernel_rfl) (ls := []) (.nil) (by kernel_rfl) (ps := ps_tens_fits) (rs := rs_tens_fits) (Eq.trans (b := F_tens_fits N x.1 x.2.1) (by kernel_rfl) h)

/-! lodge/tens.Valid -/

abbrev ps_tens_Valid : List Ty := [(.st (.pair (.st (.pair (.sl (.int .i64)) .bool)) (.sl (.int .i64))))]
abbrev rs_tens_Valid : List Slot := [.data .err]
abbrev cs_tens_Valid (N : Nat) : List CallSpec := [c_shape_Valid N, c_shape_Elems N, c_tens_fits N]
noncomputable abbrev b_tens_Valid : Code := (Go.Proofs.Tryd.f31.body).getD .skip

abbrev h_tens_Valid_0 : List Slot := [.dead, .box [.d (.st (.pair (.st (.pair (.sl (.int .i64)) .bool)) (.sl (.int .i64))))], .dead, .dead, .dead, .dead, .dead, .dead, .dead, .dead, .dead, .dead, .dead, .dead, .dead, .dead, .dead, .dead, .dead, .dead, .dead, .dead, .data (.sl (.int .i64)), .data (.int .i64), .data (.int .i64), .dead, .dead, .dead, .dead, .dead, .dead, .dead, .dead, .dead, .dead, .dead, .dead, .dead, .dead, .dead, .dead]
abbrev e_tens_Valid_0 : List (AX × List Slot) := [(AX.exit 0, [.dead, .dead, .dead, .dead, .dead, .dead, .dead, .dead, .dead, .dead, .dead, .dead, .dead, .dead, .dead, .dead, .dead, .dead, .dead, .dead, .dead, .dead, .dead, .dead, .dead, .dead, .dead, .dead, .dead, .dead, .dead, .dead, .dead, .dead, .dead, .dead, .dead, .dead, .dead, .dead, .dead]), (AX.ret, [.dead, .dead, .data .err, .dead, .dead, .dead, .dead, .dead, .dead, .dead, .dead, .dead, .dead, .dead, .dead, .dead, .dead, .dead, .dead, .dead, .dead, .dead, .dead, .dead, .dead, .dead, .dead, .dead, .dead, .dead, .dead, .dead, .dead, .dead, .dead, .dead, .dead, .dead, .dead, .dead, .dead])]
def g_tens_Valid_0 (N : Nat) : Nat → (((List Int × Bool) × List Int) × Unit) → List Int → Int → Int → Option (Sum Unit (Er × Unit))
  | 0, _, _, _, _ => none
  | n + 1, t_1, t_22, t_23, t_24 =>
    cond (decide (t_24 < t_23))
      (
      cond (decide ((0 : Int) ≤ t_24))
        (
        cond (decide ((Int.toNat t_24) < (List.length t_22)))
          (
          Option.bind (F_tens_fits N (List.getD t_22 (Int.toNat t_24) (0 : Int)) (((t_1).1).1).2) fun y3 =>
          cond (Bool.not (y3).1)
            (
            some (Sum.inr ((Go.Eng.Er.at t_24 ErrRange), ())))
            (
            (g_tens_Valid_0 N n t_1 t_22 t_23 (wi64 (t_24 + (1 : Int))))))
          (
          none))
        (
        none))
      (
      some (Sum.inl ()))

def F_tens_Valid (N : Nat) (t_0 : ((List Int × Bool) × List Int)) : Option (Er × Unit) :=
  Option.bind (F_shape_Valid N (t_0).1) fun y0 =>
  cond (Bool.not (Go.Eng.Er.isNil (y0).1))
    (
    some y0)
    (
    Option.bind (F_shape_Elems N ((t_0).1).1) fun y1 =>
    cond (decide (@Ne Int (Nat.cast (List.length (t_0).2) : Int) (y1).1))
      (
      some ((Go.Eng.Er.s ErrShape), ()))
      (
      Option.bind (g_tens_Valid_0 N N (t_0, ()) (t_0).2 (Nat.cast (List.length (t_0).2) : Int) (0 : Int)) fun y2 =>
      Sum.elim (fun y3 =>
        some (Go.Eng.Er.nil, ()))
        (fun y4 =>
        some y4) y2))

abbrev c_tens_Valid (N : Nat) : CallSpec := ⟨31, ps_tens_Valid, rs_tens_Valid, fun x => F_tens_Valid N x.1⟩
abbrev l_tens_Valid_0 (N : Nat) : LoopSpec := ⟨0, h_tens_Valid_0, e_tens_Valid_0, fun x => g_tens_Valid_0 N N x.1 x.2.1 x.2.2.1 x.2.2.2.1⟩

theorem cs_tens_Valid_ok (S : Nat → Addr) (N : Nat) : CallsOK Go.Proofs.Tryd.prog E S (cs_tens_Valid N) :=
  .cons (F_shape_Valid_ok S N) (.cons (F_shape_Elems_ok S N) (.cons (F_tens_fits_ok S N) (.nil)))
noncomputable abbrev b_tens_Valid_0 : Code := (loopsOf b_tens_Valid).getD 0 .skip
theorem g_tens_Valid_0_ok (S : Nat → Addr) (N : Nat) : ∀ n x y, (fun (x : Val (slotsTy h_tens_Valid_0)) => g_tens_Valid_0 N n x.1 x.2.1 x.2.2.1 x.2.2.2.1) x = some y → LoopCon Go.Proofs.Tryd.prog E S b_tens_Valid_0 (encSlots h_tens_Valid_0 x) (encEx e_tens_Valid_0 y).1 (encEx e_tens_Valid_0 y).2 :=
  loop_spec E_ok mixed (cs_tens_Valid_ok S N) (all := loopsOf b_tens_Valid) (ls := []) (.nil) (i := 0) (by kernel_rfl) (inner_of (by kernel_rfl)) (head := h_tens_Valid_0) (ex := e_tens_Valid_0) (fun n (x : Val (slotsTy h_tens_Valid_0)) => g_tens_Valid_0 N n x.1 x.2.1 x.2.2.1 x.2.2.2.1) (fun _ => rfl) (fun n x => by kernel_rfl)
theorem F_tens_Valid_ok (S : Nat → Addr) (N : Nat) : ∀ x y, (c_tens_Valid N).g x = some y → FCon Go.Proofs.Tryd.prog E S 31 ps_tens_Valid rs_tens_Valid x y := by
  intro x y h
  exact fun_spec E_ok mixed (cs_tens_Valid_ok S N) (f := 31) (fi := ⟨b_tens_Valid, 41, Go.Proofs.Tryd.f31.results.toList⟩) (by kernel_rfl) (ls := [l_tens_Valid_0 N]) (.cons (by kernel_rfl) (g_tens_Valid_0_ok S N N) (.nil)) (by kernel_rfl) (ps := ps_tens_Valid) (rs := rs_tens_Valid) (Eq.trans (b := F_tens_Valid N x.1) (by kernel_rfl) h)

/-! lodge/tens.Narrow -/

abbrev ps_tens_Narrow : List Ty := [(.int .i64)]
abbrev rs_tens_Narrow : List Slot := [.data (.int .i64)]
abbrev cs_tens_Narrow (N : Nat) : List CallSpec := []
noncomputable abbrev b_tens_Narrow : Code := (Go.Proofs.Tryd.f70.body).getD .skip

def F_tens_Narrow (N : Nat) (n_0 : Int) : Option (Int × Unit) :=
  some ((Go.Eng.imax (-(128 : Int)) (Go.Eng.imin n_0 (127 : Int))), ())

abbrev c_tens_Narrow (N : Nat) : CallSpec := ⟨70, ps_tens_Narrow, rs_tens_Narrow, fun x => F_tens_Narrow N x.1⟩

theorem cs_tens_Narrow_ok (S : Nat → Addr) (N : Nat) : CallsOK Go.Proofs.Tryd.prog E S (cs_tens_Narrow N) :=
  .nil
theorem F_tens_Narrow_ok (S : Nat → Addr) (N : Nat) : ∀ x y, (c_tens_Narrow N).g x = some y → FCon Go.Proofs.Tryd.prog E S 70 ps_tens_Narrow rs_tens_Narrow x y := by
  intro x y h
  exact fun_spec E_ok mixed (cs_tens_Narrow_ok S N) (f := 70) (fi := ⟨b_tens_Narrow, 6, Go.Proofs.Tryd.f70.results.toList⟩) (by kernel_rfl) (ls := []) (.nil) (by kernel_rfl) (ps := ps_tens_Narrow) (rs := rs_tens_Narrow) (Eq.trans (b := F_tens_Narrow N x.1) (by kernel_rfl) h)

/-! lodge/mat.narrow -/

abbrev ps_mat_narrow : List Ty := [(.int .i64)]
abbrev rs_mat_narrow : List Slot := [.data .bool]
abbrev cs_mat_narrow (N : Nat) : List CallSpec := [c_tens_Narrow N]
noncomputable abbrev b_mat_narrow : Code := (Go.Proofs.Tryd.f43.body).getD .skip

def F_mat_narrow (N : Nat) (n_0 : Int) : Option (Bool × Unit) :=
  Option.bind (F_tens_Narrow N n_0) fun y0 =>
  some ((decide ((y0).1 = n_0)), ())

abbrev c_mat_narrow (N : Nat) : CallSpec := ⟨43, ps_mat_narrow, rs_mat_narrow, fun x => F_mat_narrow N x.1⟩

theorem cs_mat_narrow_ok (S : Nat → Addr) (N : Nat) : CallsOK Go.Proofs.Tryd.prog E S (cs_mat_narrow N) :=
  .cons (F_tens_Narrow_ok S N) (.nil)
theorem F_mat_narrow_ok (S : Nat → Addr) (N : Nat) : ∀ x y, (c_mat_narrow N).g x = some y → FCon Go.Proofs.Tryd.prog E S 43 ps_mat_narrow rs_mat_narrow x y := by
  intro x y h
  exact fun_spec E_ok mixed (cs_mat_narrow_ok S N) (f := 43) (fi := ⟨b_mat_narrow, 7, Go.Proofs.Tryd.f43.results.toList⟩) (by kernel_rfl) (ls := []) (.nil) (by kernel_rfl) (ps := ps_mat_narrow) (rs := rs_mat_narrow) (Eq.trans (b := F_mat_narrow N x.1) (by kernel_rfl) h)

/-! lodge/mat.Result -/

abbrev ps_mat_Result : List Ty := [(.int .i64), (.int .i64), (.st (.pair (.sl (.int .i64)) .bool)), (.st (.pair (.sl (.int .i64)) .bool))]
abbrev rs_mat_Result : List Slot := [.data (.st (.pair (.sl (.int .i64)) .bool)), .data .err]
abbrev cs_mat_Result (N : Nat) : List CallSpec := [c_shape_Valid N, c_mat_narrow N]
noncomputable abbrev b_mat_Result : Code := (Go.Proofs.Tryd.f18.body).getD .skip

abbrev h_mat_Result_0 : List Slot := [.data (.int .i64), .data (.int .i64), .dead, .dead, .dead, .dead, .box [.d (.st (.pair (.sl (.int .i64)) .bool))], .box [.d (.st (.pair (.sl (.int .i64)) .bool))], .box [.sl (.int .i64), .d .bool], .dead, .dead, .dead, .dead, .dead, .dead, .dead, .dead, .sl (.st (.pair (.sl (.int .i64)) .bool)), .data (.int .i64), .data (.int .i64), .dead, .dead, .dead, .dead, .dead, .dead, .dead, .dead, .dead, .dead, .dead, .dead, .dead, .dead, .dead, .dead, .dead, .dead, .dead, .dead, .dead, .dead, .dead, .dead, .dead, .dead, .dead, .dead, .dead, .dead, .dead, .dead, .dead, .dead, .dead, .dead, .dead, .dead, .dead, .dead, .dead, .dead, .dead, .dead, .dead, .dead, .dead, .dead, .dead, .dead, .dead, .dead, .dead, .dead, .dead, .dead, .dead, .dead, .dead, .dead, .dead, .dead, .dead, .dead, .dead, .dead, .dead, .dead]
abbrev e_mat_Result_0 : List (AX × List Slot) := [(AX.exit 0, [.data (.int .i64), .data (.int .i64), .dead, .dead, .dead, .dead, .box [.d (.st (.pair (.sl (.int .i64)) .bool))], .box [.d (.st (.pair (.sl (.int .i64)) .bool))], .box [.sl (.int .i64), .d .bool], .dead, .dead, .dead, .dead, .dead, .dead, .dead, .dead, .dead, .dead, .dead, .dead, .dead, .dead, .dead, .dead, .dead, .dead, .dead, .dead, .dead, .dead, .dead, .dead, .dead, .dead, .dead, .dead, .dead, .dead, .dead, .dead, .dead, .dead, .dead, .dead, .dead, .dead, .dead, .dead, .dead, .dead, .dead, .dead, .dead, .dead, .dead, .dead, .dead, .dead, .dead, .dead, .dead, .dead, .dead, .dead, .dead, .dead, .dead, .dead, .dead, .dead, .dead, .dead, .dead, .dead, .dead, .dead, .dead, .dead, .dead, .dead, .dead, .dead, .dead, .dead, .dead, .dead, .dead]), (AX.ret, [.dead, .dead, .dead, .dead, .dead, .dead, .dead, .dead, .box [.sl (.int .i64), .d .bool], .data .err, .dead, .dead, .dead, .dead, .dead, .dead, .dead, .dead, .dead, .dead, .dead, .dead, .dead, .dead, .dead, .dead, .dead, .dead, .dead, .dead, .dead, .dead, .dead, .dead, .dead, .dead, .dead, .dead, .dead, .dead, .dead, .dead, .dead, .dead, .dead, .dead, .dead, .dead, .dead, .dead, .dead, .dead, .dead, .dead, .dead, .dead, .dead, .dead, .dead, .dead, .dead, .dead, .dead, .dead, .dead, .dead, .dead, .dead, .dead, .dead, .dead, .dead, .dead, .dead, .dead, .dead, .dead, .dead, .dead, .dead, .dead, .dead, .dead, .dead, .dead, .dead, .dead, .dead])]
def g_mat_Result_0 (N : Nat) : Nat → Int → Int → ((List Int × Bool) × Unit) → ((List Int × Bool) × Unit) → (List Int × (Bool × Unit)) → List ((List Int × Bool)) → Int → Int → Option (Sum (Int × (Int × (((List Int × Bool) × Unit) × (((List Int × Bool) × Unit) × ((List Int × (Bool × Unit)) × Unit))))) ((List Int × (Bool × Unit)) × (Er × Unit)))
  | 0, _, _, _, _, _, _, _, _ => none
  | n + 1, za_0, zb_1, a_6, b_7, t_8, t_17, t_18, t_19 =>
    cond (decide (t_19 < t_18))
      (
      cond (decide ((0 : Int) ≤ t_19))
        (
        cond (decide ((Int.toNat t_19) < (List.length t_17)))
          (
          cond (decide (((0 : Nat) + (Int.toNat t_19)) < (List.length t_17)))
            (
            Option.bind (F_shape_Valid N (List.getD t_17 ((0 : Nat) + (Int.toNat t_19)) (([] : List Int), false))) fun y1 =>
            cond (Bool.not (Go.Eng.Er.isNil (y1).1))
              (
              some (Sum.inr ((([] : List Int), (false, ())), y1)))
              (
              cond (decide ((List.length (t_8).1) = (List.length (t_8).1)))
                (
                cond (decide ((List.length t_17) = (List.length t_17)))
                  (
                  (g_mat_Result_0 N n za_0 zb_1 a_6 b_7 t_8 t_17 t_18 (wi64 (t_19 + (1 : Int)))))
                  (
                  none))
                (
                none)))
            (
            none))
          (
          none))
        (
        none))
      (
      cond (decide ((List.length (t_8).1) = (List.length (t_8).1)))
        (
        some (Sum.inl (za_0, (zb_1, (a_6, (b_7, (t_8, ())))))))
        (
        none))

def F_mat_Result (N : Nat) (za_0 : Int) (zb_1 : Int) (a_2 : (List Int × Bool)) (b_3 : (List Int × Bool)) : Option ((List Int × Bool) × (Er × Unit)) :=
  Option.bind (g_mat_Result_0 N N za_0 zb_1 (a_2, ()) (b_3, ()) (([] : List Int), (false, ())) (a_2 :: (b_3 :: ([] : List ((List Int) × Bool)))) (Nat.cast (2 : Nat) : Int) (0 : Int)) fun y0 =>
  Sum.elim (fun y1 =>
    cond (decide (@Ne Int (Nat.cast (List.length (((((y1).2).2).1).1).1) : Int) (2 : Int)))
      (
      some ((([] : List Int), false), ((Go.Eng.Er.s ErrShape), ())))
      (
      cond (decide (@Ne Int (Nat.cast (List.length ((((((y1).2).2).2).1).1).1) : Int) (2 : Int)))
        (
        some ((([] : List Int), false), ((Go.Eng.Er.s ErrShape), ())))
        (
        cond (decide (1 < (List.length (((((y1).2).2).1).1).1)))
          (
          cond (decide (0 < (List.length ((((((y1).2).2).2).1).1).1)))
            (
            cond (decide (@Ne Int (List.getD (((((y1).2).2).1).1).1 1 (0 : Int)) (List.getD ((((((y1).2).2).2).1).1).1 0 (0 : Int))))
              (
              some ((([] : List Int), false), ((Go.Eng.Er.s ErrShape), ())))
              (
              cond (((((y1).2).2).1).1).2
                (
                some ((([] : List Int), false), ((Go.Eng.Er.s ErrShape), ())))
                (
                cond ((((((y1).2).2).2).1).1).2
                  (
                  some ((([] : List Int), false), ((Go.Eng.Er.s ErrShape), ())))
                  (
                  Option.bind (F_mat_narrow N (y1).1) fun y2 =>
                  cond (Bool.not (y2).1)
                    (
                    some ((([] : List Int), false), ((Go.Eng.Er.s ErrRange), ())))
                    (
                    Option.bind (F_mat_narrow N ((y1).2).1) fun y3 =>
                    cond (Bool.not (y3).1)
                      (
                      some ((([] : List Int), false), ((Go.Eng.Er.s ErrRange), ())))
                      (
                      cond (decide (0 < (List.length (((((y1).2).2).1).1).1)))
                        (
                        cond (decide (1 < (List.length ((((((y1).2).2).2).1).1).1)))
                          (
                          Option.bind (F_shape_Valid N (((List.getD (((((y1).2).2).1).1).1 0 (0 : Int)) :: ((List.getD ((((((y1).2).2).2).1).1).1 1 (0 : Int)) :: ([] : List Int))), true)) fun y4 =>
                          cond (Bool.not (Go.Eng.Er.isNil (y4).1))
                            (
                            some ((([] : List Int), false), y4))
                            (
                            some ((((List.getD (((((y1).2).2).1).1).1 0 (0 : Int)) :: ((List.getD ((((((y1).2).2).2).1).1).1 1 (0 : Int)) :: ([] : List Int))), true), (Go.Eng.Er.nil, ()))))
                          (
                          none))
                        (
                        none)))))))
            (
            none))
          (
          none))))
    (fun y5 =>
    cond (decide (((0 : Nat) + (List.length ((y5).1).1)) ≤ (List.length ((y5).1).1)))
      (
      some (((List.take (List.length ((y5).1).1) ((y5).1).1), (((y5).1).2).1), (y5).2))
      (
      none)) y0

abbrev c_mat_Result (N : Nat) : CallSpec := ⟨18, ps_mat_Result, rs_mat_Result, fun x => F_mat_Result N x.1 x.2.1 x.2.2.1 x.2.2.2.1⟩
abbrev l_mat_Result_0 (N : Nat) : LoopSpec := ⟨0, h_mat_Result_0, e_mat_Result_0, fun x => g_mat_Result_0 N N x.1 x.2.1 x.2.2.1 x.2.2.2.1 x.2.2.2.2.1 x.2.2.2.2.2.1 x.2.2.2.2.2.2.1 x.2.2.2.2.2.2.2.1⟩

theorem cs_mat_Result_ok (S : Nat → Addr) (N : Nat) : CallsOK Go.Proofs.Tryd.prog E S (cs_mat_Result N) :=
  .cons (F_shape_Valid_ok S N) (.cons (F_mat_narrow_ok S N) (.nil))
noncomputable abbrev b_mat_Result_0 : Code := (loopsOf b_mat_Result).getD 0 .skip
theorem g_mat_Result_0_ok (S : Nat → Addr) (N : Nat) : ∀ n x y, (fun (x : Val (slotsTy h_mat_Result_0)) => g_mat_Result_0 N n x.1 x.2.1 x.2.2.1 x.2.2.2.1 x.2.2.2.2.1 x.2.2.2.2.2.1 x.2.2.2.2.2.2.1 x.2.2.2.2.2.2.2.1) x = some y → LoopCon Go.Proofs.Tryd.prog E S b_mat_Result_0 (encSlots h_mat_Result_0 x) (encEx e_mat_Result_0 y).1 (encEx e_mat_Result_0 y).2 :=
  loop_spec E_ok mixed (cs_mat_Result_ok S N) (all := loopsOf b_mat_Result) (ls := []) (.nil) (i := 0) (by kernel_rfl) (inner_of (by kernel_rfl)) (head := h_mat_Result_0) (ex := e_mat_Result_0) (fun n (x : Val (slotsTy h_mat_Result_0)) => g_mat_Result_0 N n x.1 x.2.1 x.2.2.1 x.2.2.2.1 x.2.2.2.2.1 x.2.2.2.2.2.1 x.2.2.2.2.2.2.1 x.2.2.2.2.2.2.2.1) (fun _ => rfl) (fun n x => by kernel_rfl)
theorem F_mat_Result_ok (S : Nat → Addr) (N : Nat) : ∀ x y, (c_mat_Result N).g x = some y → FCon Go.Proofs.Tryd.prog E S 18 ps_mat_Result rs_mat_Result x y := by
  intro x y h
  exact fun_spec E_ok mixed (cs_mat_Result_ok S N) (f := 18) (fi := ⟨b_mat_Result, 88, Go.Proofs.Tryd.f18.results.toList⟩) (by kernel_rfl) (ls := [l_mat_Result_0 N]) (.cons (by kernel_rfl) (g_mat_Result_0_ok S N N) (.nil)) (by kernel_rfl) (ps := ps_mat_Result) (rs := rs_mat_Result) (Eq.trans (b := F_mat_Result N x.1 x.2.1 x.2.2.1 x.2.2.2.1) (by kernel_rfl) h)

/-! lodge/mat.result -/

abbrev ps_mat_result : List Ty := [(.st (.pair (.st (.pair (.sl (.int .i64)) .bool)) (.sl (.int .i64)))), (.st (.pair (.st (.pair (.sl (.int .i64)) .bool)) (.sl (.int .i64)))), (.int .i64), (.int .i64)]
abbrev rs_mat_result : List Slot := [.data (.st (.pair (.sl (.int .i64)) .bool)), .data .err]
abbrev cs_mat_result (N : Nat) : List CallSpec := [c_tens_Valid N, c_mat_Result N]
noncomputable abbrev b_mat_result : Code := (Go.Proofs.Tryd.f25.body).getD .skip

abbrev h_mat_result_0 : List Slot := [.dead, .dead, .data (.int .i64), .data (.int .i64), .box [.d (.st (.pair (.st (.pair (.sl (.int .i64)) .bool)) (.sl (.int .i64))))], .box [.d (.st (.pair (.st (.pair (.sl (.int .i64)) .bool)) (.sl (.int .i64))))], .dead, .dead, .box [.sl (.int .i64), .d .bool], .dead, .dead, .dead, .dead, .dead, .dead, .sl (.st (.pair (.st (.pair (.sl (.int .i64)) .bool)) (.sl (.int .i64)))), .data (.int .i64), .data (.int .i64), .dead, .dead, .dead, .dead, .dead, .dead, .dead, .dead, .dead, .dead, .dead, .dead, .dead, .dead, .dead, .dead, .dead, .dead, .dead]
abbrev e_mat_result_0 : List (AX × List Slot) := [(AX.exit 0, [.dead, .dead, .data (.int .i64), .data (.int .i64), .box [.d (.st (.pair (.st (.pair (.sl (.int .i64)) .bool)) (.sl (.int .i64))))], .box [.d (.st (.pair (.st (.pair (.sl (.int .i64)) .bool)) (.sl (.int .i64))))], .dead, .dead, .box [.sl (.int .i64), .d .bool], .dead, .dead, .dead, .dead, .dead, .dead, .dead, .dead, .dead, .dead, .dead, .dead, .dead, .dead, .dead, .dead, .dead, .dead, .dead, .dead, .dead, .dead, .dead, .dead, .dead, .dead, .dead, .dead]), (AX.ret, [.dead, .dead, .dead, .dead, .dead, .dead, .dead, .dead, .box [.sl (.int .i64), .d .bool], .data .err, .dead, .dead, .dead, .dead, .dead, .dead, .dead, .dead, .dead, .dead, .dead, .dead, .dead, .dead, .dead, .dead, .dead, .dead, .dead, .dead, .dead, .dead, .dead, .dead, .dead, .dead, .dead])]
def g_mat_result_0 (N : Nat) : Nat → Int → Int → (((List Int × Bool) × List Int) × Unit) → (((List Int × Bool) × List Int) × Unit) → (List Int × (Bool × Unit)) → List (((List Int × Bool) × List Int)) → Int → Int → Option (Sum (Int × (Int × ((((List Int × Bool) × List Int) × Unit) × ((((List Int × Bool) × List Int) × Unit) × ((List Int × (Bool × Unit)) × Unit))))) ((List Int × (Bool × Unit)) × (Er × Unit)))
  | 0, _, _, _, _, _, _, _, _ => none
  | n + 1, za_2, zb_3, a_4, b_5, t_8, t_15, t_16, t_17 =>
    cond (decide (t_17 < t_16))
      (
      cond (decide ((0 : Int) ≤ t_17))
        (
        cond (decide ((Int.toNat t_17) < (List.length t_15)))
          (
          cond (decide (((0 : Nat) + (Int.toNat t_17)) < (List.length t_15)))
            (
            Option.bind (F_tens_Valid N (List.getD t_15 ((0 : Nat) + (Int.toNat t_17)) ((([] : List Int), false), ([] : List Int)))) fun y1 =>
            cond (Bool.not (Go.Eng.Er.isNil (y1).1))
              (
              some (Sum.inr ((([] : List Int), (false, ())), y1)))
              (
              cond (decide ((List.length (t_8).1) = (List.length (t_8).1)))
                (
                cond (decide ((List.length t_15) = (List.length t_15)))
                  (
                  (g_mat_result_0 N n za_2 zb_3 a_4 b_5 t_8 t_15 t_16 (wi64 (t_17 + (1 : Int)))))
                  (
                  none))
                (
                none)))
            (
            none))
          (
          none))
        (
        none))
      (
      cond (decide ((List.length (t_8).1) = (List.length (t_8).1)))
        (
        some (Sum.inl (za_2, (zb_3, (a_4, (b_5, (t_8, ())))))))
        (
        none))

def F_mat_result (N : Nat) (a_0 : ((List Int × Bool) × List Int)) (b_1 : ((List Int × Bool) × List Int)) (za_2 : Int) (zb_3 : Int) : Option ((List Int × Bool) × (Er × Unit)) :=
  Option.bind (g_mat_result_0 N N za_2 zb_3 (a_0, ()) (b_1, ()) (([] : List Int), (false, ())) (a_0 :: (b_1 :: ([] : List (((List Int) × Bool) × (List Int))))) (Nat.cast (2 : Nat) : Int) (0 : Int)) fun y0 =>
  Sum.elim (fun y1 =>
    Option.bind (F_mat_Result N (y1).1 ((y1).2).1 (((((y1).2).2).1).1).1 ((((((y1).2).2).2).1).1).1) fun y2 =>
    some y2)
    (fun y3 =>
    cond (decide (((0 : Nat) + (List.length ((y3).1).1)) ≤ (List.length ((y3).1).1)))
      (
      some (((List.take (List.length ((y3).1).1) ((y3).1).1), (((y3).1).2).1), (y3).2))
      (
      none)) y0

abbrev c_mat_result (N : Nat) : CallSpec := ⟨25, ps_mat_result, rs_mat_result, fun x => F_mat_result N x.1 x.2.1 x.2.2.1 x.2.2.2.1⟩
abbrev l_mat_result_0 (N : Nat) : LoopSpec := ⟨0, h_mat_result_0, e_mat_result_0, fun x => g_mat_result_0 N N x.1 x.2.1 x.2.2.1 x.2.2.2.1 x.2.2.2.2.1 x.2.2.2.2.2.1 x.2.2.2.2.2.2.1 x.2.2.2.2.2.2.2.1⟩

theorem cs_mat_result_ok (S : Nat → Addr) (N : Nat) : CallsOK Go.Proofs.Tryd.prog E S (cs_mat_result N) :=
  .cons (F_tens_Valid_ok S N) (.cons (F_mat_Result_ok S N) (.nil))
noncomputable abbrev b_mat_result_0 : Code := (loopsOf b_mat_result).getD 0 .skip
theorem g_mat_result_0_ok (S : Nat → Addr) (N : Nat) : ∀ n x y, (fun (x : Val (slotsTy h_mat_result_0)) => g_mat_result_0 N n x.1 x.2.1 x.2.2.1 x.2.2.2.1 x.2.2.2.2.1 x.2.2.2.2.2.1 x.2.2.2.2.2.2.1 x.2.2.2.2.2.2.2.1) x = some y → LoopCon Go.Proofs.Tryd.prog E S b_mat_result_0 (encSlots h_mat_result_0 x) (encEx e_mat_result_0 y).1 (encEx e_mat_result_0 y).2 :=
  loop_spec E_ok mixed (cs_mat_result_ok S N) (all := loopsOf b_mat_result) (ls := []) (.nil) (i := 0) (by kernel_rfl) (inner_of (by kernel_rfl)) (head := h_mat_result_0) (ex := e_mat_result_0) (fun n (x : Val (slotsTy h_mat_result_0)) => g_mat_result_0 N n x.1 x.2.1 x.2.2.1 x.2.2.2.1 x.2.2.2.2.1 x.2.2.2.2.2.1 x.2.2.2.2.2.2.1 x.2.2.2.2.2.2.2.1) (fun _ => rfl) (fun n x => by kernel_rfl)
theorem F_mat_result_ok (S : Nat → Addr) (N : Nat) : ∀ x y, (c_mat_result N).g x = some y → FCon Go.Proofs.Tryd.prog E S 25 ps_mat_result rs_mat_result x y := by
  intro x y h
  exact fun_spec E_ok mixed (cs_mat_result_ok S N) (f := 25) (fi := ⟨b_mat_result, 37, Go.Proofs.Tryd.f25.results.toList⟩) (by kernel_rfl) (ls := [l_mat_result_0 N]) (.cons (by kernel_rfl) (g_mat_result_0_ok S N N) (.nil)) (by kernel_rfl) (ps := ps_mat_result) (rs := rs_mat_result) (Eq.trans (b := F_mat_result N x.1 x.2.1 x.2.2.1 x.2.2.2.1) (by kernel_rfl) h)

/-! lodge/tens.Wide -/

abbrev ps_tens_Wide : List Ty := [(.int .i64)]
abbrev rs_tens_Wide : List Slot := [.data (.int .i64)]
abbrev cs_tens_Wide (N : Nat) : List CallSpec := []
noncomputable abbrev b_tens_Wide : Code := (Go.Proofs.Tryd.f26.body).getD .skip

def F_tens_Wide (N : Nat) (n_0 : Int) : Option (Int × Unit) :=
  some ((wi64 (wi32 (wu32 (wu64 n_0)))), ())

abbrev c_tens_Wide (N : Nat) : CallSpec := ⟨26, ps_tens_Wide, rs_tens_Wide, fun x => F_tens_Wide N x.1⟩

theorem cs_tens_Wide_ok (S : Nat → Addr) (N : Nat) : CallsOK Go.Proofs.Tryd.prog E S (cs_tens_Wide N) :=
  .nil
theorem F_tens_Wide_ok (S : Nat → Addr) (N : Nat) : ∀ x y, (c_tens_Wide N).g x = some y → FCon Go.Proofs.Tryd.prog E S 26 ps_tens_Wide rs_tens_Wide x y := by
  intro x y h
  exact fun_spec E_ok mixed (cs_tens_Wide_ok S N) (f := 26) (fi := ⟨b_tens_Wide, 8, Go.Proofs.Tryd.f26.results.toList⟩) (by kernel_rfl) (ls := []) (.nil) (by kernel_rfl) (ps := ps_tens_Wide) (rs := rs_tens_Wide) (Eq.trans (b := F_tens_Wide N x.1) (by kernel_rfl) h)

/-! lodge/mat.Mul -/

abbrev ps_mat_Mul : List Ty := [(.st (.pair (.st (.pair (.sl (.int .i64)) .bool)) (.sl (.int .i64)))), (.st (.pair (.st (.pair (.sl (.int .i64)) .bool)) (.sl (.int .i64)))), (.int .i64), (.int .i64)]
abbrev rs_mat_Mul : List Slot := [.ag [.d (.sl (.int .i64)), .d .bool, .sl (.int .i64)], .data .err]
abbrev cs_mat_Mul (N : Nat) : List CallSpec := [c_mat_result N, c_tens_Wide N]
noncomputable abbrev b_mat_Mul : Code := (Go.Proofs.Tryd.f11.body).getD .skip

abbrev h_mat_Mul_2 : List Slot := [.dead, .dead, .data (.int .i64), .data (.int .i64), .box [.d (.st (.pair (.st (.pair (.sl (.int .i64)) .bool)) (.sl (.int .i64))))], .box [.d (.st (.pair (.st (.pair (.sl (.int .i64)) .bool)) (.sl (.int .i64))))], .dead, .dead, .box [.sl (.int .i64), .d .bool, .sl (.int .i64)], .dead, .dead, .dead, .data (.int .i64), .data (.int .i64), .data (.int .i64), .box [.d (.sl (.int .i64)), .d .bool, .sl (.int .i64)], .data (.int .i64), .data (.int .i64), .data (.int .i64), .dead, .dead, .dead, .dead, .dead, .dead, .dead, .dead, .dead, .dead, .dead, .dead, .dead, .dead, .dead, .dead, .dead, .dead, .dead, .dead, .dead, .dead, .dead, .dead, .dead, .dead, .dead, .dead, .dead, .dead, .dead, .dead, .dead, .dead, .dead, .dead, .dead, .dead, .dead, .dead, .dead, .dead, .dead, .dead, .data (.int .i64), .data (.int .i64), .dead, .dead, .dead, .dead, .dead, .dead, .dead, .dead, .dead, .dead, .dead, .dead, .dead, .dead, .dead, .dead, .dead, .dead, .dead, .dead, .dead, .dead, .dead, .dead, .dead, .dead, .dead, .dead, .dead, .dead, .dead, .dead, .dead, .dead, .dead, .dead, .dead, .dead, .dead]
abbrev e_mat_Mul_2 : List (AX × List Slot) := [(AX.exit 4, [.dead, .dead, .data (.int .i64), .data (.int .i64), .box [.d (.st (.pair (.st (.pair (.sl (.int .i64)) .bool)) (.sl (.int .i64))))], .box [.d (.st (.pair (.st (.pair (.sl (.int .i64)) .bool)) (.sl (.int .i64))))], .dead, .dead, .box [.sl (.int .i64), .d .bool, .sl (.int .i64)], .dead, .dead, .dead, .data (.int .i64), .data (.int .i64), .data (.int .i64), .box [.d (.sl (.int .i64)), .d .bool, .sl (.int .i64)], .data (.int .i64), .data (.int .i64), .data (.int .i64), .dead, .dead, .dead, .dead, .dead, .dead, .dead, .dead, .dead, .dead, .dead, .dead, .dead, .dead, .dead, .dead, .dead, .dead, .dead, .dead, .dead, .dead, .dead, .dead, .dead, .dead, .dead, .dead, .dead, .dead, .dead, .dead, .dead, .dead, .dead, .dead, .dead, .dead, .dead, .dead, .dead, .dead, .dead, .dead, .dead, .dead, .dead, .dead, .dead, .dead, .dead, .dead, .dead, .dead, .dead, .dead, .dead, .dead, .dead, .dead, .dead, .dead, .dead, .dead, .dead, .dead, .dead, .dead, .dead, .dead, .dead, .dead, .dead, .dead, .dead, .dead, .dead, .dead, .dead, .dead, .dead, .dead, .dead, .dead, .dead])]
def g_mat_Mul_2 (N : Nat) : Nat → Int → Int → (((List Int × Bool) × List Int) × Unit) → (((List Int × Bool) × List Int) × Unit) → (List Int × (Bool × (List Int × Unit))) → Int → Int → Int → (List Int × (Bool × (List Int × Unit))) → Int → Int → Int → Int → Int → Option (Int × (Int × ((((List Int × Bool) × List Int) × Unit) × ((((List Int × Bool) × List Int) × Unit) × ((List Int × (Bool × (List Int × Unit))) × (Int × (Int × (Int × ((List Int × (Bool × (List Int × Unit))) × (Int × (Int × (Int × Unit))))))))))))
  | 0, _, _, _, _, _, _, _, _, _, _, _, _, _, _ => none
  | n + 1, za_2, zb_3, a_4, b_5, t_8, m_12, k_13, n_14, out_15, i_16, j_17, s_18, t_63, t_64 =>
    cond (decide (t_64 < t_63))
      (
      cond (decide ((0 : Int) ≤ (wi64 ((wi64 (i_16 * k_13)) + t_64))))
        (
        cond (decide ((Int.toNat (wi64 ((wi64 (i_16 * k_13)) + t_64))) < (List.length ((a_4).1).2)))
          (
          cond (decide ((0 : Int) ≤ (wi64 ((wi64 (t_64 * n_14)) + j_17))))
            (
            cond (decide ((Int.toNat (wi64 ((wi64 (t_64 * n_14)) + j_17))) < (List.length ((b_5).1).2)))
              (
              cond (decide ((List.length (t_8).1) = (List.length (t_8).1)))
                (
                cond (decide ((List.length (((t_8).2).2).1) = (List.length (((t_8).2).2).1)))
                  (
                  cond (decide ((List.length (((out_15).2).2).1) = (List.length (((out_15).2).2).1)))
                    (
                    (g_mat_Mul_2 N n za_2 zb_3 a_4 b_5 t_8 m_12 k_13 n_14 out_15 i_16 j_17 (wi64 (s_18 + (wi64 ((wi64 ((List.getD ((a_4).1).2 (Int.toNat (wi64 ((wi64 (i_16 * k_13)) + t_64))) (0 : Int)) - za_2)) * (wi64 ((List.getD ((b_5).1).2 (Int.toNat (wi64 ((wi64 (t_64 * n_14)) + j_17))) (0 : Int)) - zb_3)))))) t_63 (wi64 (t_64 + (1 : Int)))))
                    (
                    none))
                  (
                  none))
                (
                none))
              (
              none))
            (
            none))
          (
          none))
        (
        none))
      (
      cond (decide ((List.length (t_8).1) = (List.length (t_8).1)))
        (
        cond (decide ((List.length (((t_8).2).2).1) = (List.length (((t_8).2).2).1)))
          (
          cond (decide ((List.length (((out_15).2).2).1) = (List.length (((out_15).2).2).1)))
            (
            some (za_2, (zb_3, (a_4, (b_5, (t_8, (m_12, (k_13, (n_14, (out_15, (i_16, (j_17, (s_18, ())))))))))))))
            (
            none))
          (
          none))
        (
        none))

abbrev h_mat_Mul_1 : List Slot := [.dead, .dead, .data (.int .i64), .data (.int .i64), .box [.d (.st (.pair (.st (.pair (.sl (.int .i64)) .bool)) (.sl (.int .i64))))], .box [.d (.st (.pair (.st (.pair (.sl (.int .i64)) .bool)) (.sl (.int .i64))))], .dead, .dead, .box [.sl (.int .i64), .d .bool, .sl (.int .i64)], .dead, .dead, .dead, .data (.int .i64), .data (.int .i64), .data (.int .i64), .box [.d (.sl (.int .i64)), .d .bool, .sl (.int .i64)], .data (.int .i64), .data (.int .i64), .dead, .dead, .dead, .dead, .dead, .dead, .dead, .dead, .dead, .dead, .dead, .dead, .dead, .dead, .dead, .dead, .dead, .dead, .dead, .dead, .dead, .dead, .dead, .dead, .dead, .dead, .dead, .dead, .dead, .dead, .dead, .dead, .dead, .dead, .dead, .dead, .dead, .dead, .dead, .dead, .dead, .dead, .dead, .dead, .dead, .dead, .dead, .dead, .dead, .dead, .dead, .dead, .dead, .dead, .dead, .dead, .dead, .dead, .dead, .dead, .dead, .dead, .dead, .dead, .dead, .dead, .dead, .dead, .dead, .dead, .dead, .dead, .dead, .dead, .dead, .dead, .dead, .dead, .dead, .dead, .dead, .dead, .dead, .dead, .dead, .dead]
abbrev e_mat_Mul_1 : List (AX × List Slot) := [(AX.exit 0, [.dead, .dead, .dead, .dead, .dead, .dead, .dead, .dead, .box [.sl (.int .i64), .d .bool, .sl (.int .i64)], .dead, .dead, .dead, .dead, .dead, .dead, .box [.d (.sl (.int .i64)), .d .bool, .sl (.int .i64)], .dead, .dead, .dead, .dead, .dead, .dead, .dead, .dead, .dead, .dead, .dead, .dead, .dead, .dead, .dead, .dead, .dead, .dead, .dead, .dead, .dead, .dead, .dead, .dead, .dead, .dead, .dead, .dead, .dead, .dead, .dead, .dead, .dead, .dead, .dead, .dead, .dead, .dead, .dead, .dead, .dead, .dead, .dead, .dead, .dead, .dead, .dead, .dead, .dead, .dead, .dead, .dead, .dead, .dead, .dead, .dead, .dead, .dead, .dead, .dead, .dead, .dead, .dead, .dead, .dead, .dead, .dead, .dead, .dead, .dead, .dead, .dead, .dead, .dead, .dead, .dead, .dead, .dead, .dead, .dead, .dead, .dead, .dead, .dead, .dead, .dead, .dead, .dead]), (AX.exit 1, [.dead, .dead, .data (.int .i64), .data (.int .i64), .box [.d (.st (.pair (.st (.pair (.sl (.int .i64)) .bool)) (.sl (.int .i64))))], .box [.d (.st (.pair (.st (.pair (.sl (.int .i64)) .bool)) (.sl (.int .i64))))], .dead, .dead, .box [.sl (.int .i64), .d .bool, .sl (.int .i64)], .dead, .dead, .dead, .data (.int .i64), .data (.int .i64), .data (.int .i64), .box [.d (.sl (.int .i64)), .d .bool, .sl (.int .i64)], .data (.int .i64), .dead, .dead, .dead, .dead, .dead, .dead, .dead, .dead, .dead, .dead, .dead, .dead, .dead, .dead, .dead, .dead, .dead, .dead, .dead, .dead, .dead, .dead, .dead, .dead, .dead, .dead, .dead, .dead, .dead, .dead, .dead, .dead, .dead, .dead, .dead, .dead, .dead, .dead, .dead, .dead, .dead, .dead, .dead, .dead, .dead, .dead, .dead, .dead, .dead, .dead, .dead, .dead, .dead, .dead, .dead, .dead, .dead, .dead, .dead, .dead, .dead, .dead, .dead, .dead, .dead, .dead, .dead, .dead, .dead, .dead, .dead, .dead, .dead, .dead, .dead, .dead, .dead, .dead, .dead, .dead, .dead, .dead, .dead, .dead, .dead, .dead, .dead])]
def g_mat_Mul_1 (N : Nat) : Nat → Int → Int → (((List Int × Bool) × List Int) × Unit) → (((List Int × Bool) × List Int) × Unit) → (List Int × (Bool × (List Int × Unit))) → Int → Int → Int → (List Int × (Bool × (List Int × Unit))) → Int → Int → Option (Sum ((List Int × (Bool × (List Int × Unit))) × ((List Int × (Bool × (List Int × Unit))) × Unit)) (Int × (Int × ((((List Int × Bool) × List Int) × Unit) × ((((List Int × Bool) × List Int) × Unit) × ((List Int × (Bool × (List Int × Unit))) × (Int × (Int × (Int × ((List Int × (Bool × (List Int × Unit))) × (Int × Unit)))))))))))
  | 0, _, _, _, _, _, _, _, _, _, _, _ => none
  | n + 1, za_2, zb_3, a_4, b_5, t_8, m_12, k_13, n_14, out_15, i_16, j_17 =>
    cond (decide (j_17 = n_14))
      (
      cond (decide ((List.length (t_8).1) = (List.length (t_8).1)))
        (
        cond (decide ((List.length (((t_8).2).2).1) = (List.length (((t_8).2).2).1)))
          (
          cond (decide ((List.length (((out_15).2).2).1) = (List.length (((out_15).2).2).1)))
            (
            some (Sum.inr (za_2, (zb_3, (a_4, (b_5, (t_8, (m_12, (k_13, (n_14, (out_15, (i_16, ()))))))))))))
            (
            none))
          (
          none))
        (
        none))
      (
      cond (decide (i_16 = m_12))
        (
        cond (decide ((List.length (t_8).1) = (List.length (t_8).1)))
          (
          cond (decide ((List.length (((t_8).2).2).1) = (List.length (((t_8).2).2).1)))
            (
            cond (decide ((List.length (((out_15).2).2).1) = (List.length (((out_15).2).2).1)))
              (
              some (Sum.inl (t_8, (out_15, ()))))
              (
              none))
            (
            none))
          (
          none))
        (
        cond (decide ((List.length (t_8).1) = (List.length (t_8).1)))
          (
          cond (decide ((List.length (((t_8).2).2).1) = (List.length (((t_8).2).2).1)))
            (
            cond (decide ((List.length (((out_15).2).2).1) = (List.length (((out_15).2).2).1)))
              (
              Option.bind (g_mat_Mul_2 N N za_2 zb_3 a_4 b_5 t_8 m_12 k_13 n_14 out_15 i_16 j_17 (0 : Int) k_13 (0 : Int)) fun y3 =>
              Option.bind (F_tens_Wide N ((((((((((((y3).2).2).2).2).2).2).2).2).2).2).2).1) fun y4 =>
              cond (decide ((0 : Int) ≤ (wi64 ((wi64 (((((((((((y3).2).2).2).2).2).2).2).2).2).1 * ((((((((y3).2).2).2).2).2).2).2).1)) + (((((((((((y3).2).2).2).2).2).2).2).2).2).2).1))))
                (
                cond (decide ((Int.toNat (wi64 ((wi64 (((((((((((y3).2).2).2).2).2).2).2).2).2).1 * ((((((((y3).2).2).2).2).2).2).2).1)) + (((((((((((y3).2).2).2).2).2).2).2).2).2).2).1))) < (List.length ((((((((((((y3).2).2).2).2).2).2).2).2).1).2).2).1)))
                  (
                  cond (decide (((0 : Nat) + (Int.toNat (wi64 ((wi64 (((((((((((y3).2).2).2).2).2).2).2).2).2).1 * ((((((((y3).2).2).2).2).2).2).2).1)) + (((((((((((y3).2).2).2).2).2).2).2).2).2).2).1)))) < (List.length ((((((((((((y3).2).2).2).2).2).2).2).2).1).2).2).1)))
                    (
                    cond (decide ((List.length ((((((y3).2).2).2).2).1).1) = (List.length ((((((y3).2).2).2).2).1).1)))
                      (
                      cond (decide ((List.length ((((((((y3).2).2).2).2).1).2).2).1) = (List.length ((((((((y3).2).2).2).2).1).2).2).1)))
                        (
                        cond (decide ((List.length ((((((((((((y3).2).2).2).2).2).2).2).2).1).2).2).1) = (List.length (List.set ((((((((((((y3).2).2).2).2).2).2).2).2).1).2).2).1 ((0 : Nat) + (Int.toNat (wi64 ((wi64 (((((((((((y3).2).2).2).2).2).2).2).2).2).1 * ((((((((y3).2).2).2).2).2).2).2).1)) + (((((((((((y3).2).2).2).2).2).2).2).2).2).2).1)))) (y4).1))))
                          (
                          (g_mat_Mul_1 N n (y3).1 ((y3).2).1 (((y3).2).2).1 ((((y3).2).2).2).1 (((((y3).2).2).2).2).1 ((((((y3).2).2).2).2).2).1 (((((((y3).2).2).2).2).2).2).1 ((((((((y3).2).2).2).2).2).2).2).1 (((((((((((y3).2).2).2).2).2).2).2).2).1).1, ((((((((((((y3).2).2).2).2).2).2).2).2).1).2).1, ((List.set ((((((((((((y3).2).2).2).2).2).2).2).2).1).2).2).1 ((0 : Nat) + (Int.toNat (wi64 ((wi64 (((((((((((y3).2).2).2).2).2).2).2).2).2).1 * ((((((((y3).2).2).2).2).2).2).2).1)) + (((((((((((y3).2).2).2).2).2).2).2).2).2).2).1)))) (y4).1), ()))) ((((((((((y3).2).2).2).2).2).2).2).2).2).1 (wi64 ((((((((((((y3).2).2).2).2).2).2).2).2).2).2).1 + (1 : Int)))))
                          (
                          none))
                        (
                        none))
                      (
                      none))
                    (
                    none))
                  (
                  none))
                (
                none))
              (
              none))
            (
            none))
          (
          none)))

abbrev h_mat_Mul_0 : List Slot := [.dead, .dead, .data (.int .i64), .data (.int .i64), .box [.d (.st (.pair (.st (.pair (.sl (.int .i64)) .bool)) (.sl (.int .i64))))], .box [.d (.st (.pair (.st (.pair (.sl (.int .i64)) .bool)) (.sl (.int .i64))))], .dead, .dead, .box [.sl (.int .i64), .d .bool, .sl (.int .i64)], .dead, .dead, .dead, .data (.int .i64), .data (.int .i64), .data (.int .i64), .box [.d (.sl (.int .i64)), .d .bool, .sl (.int .i64)], .data (.int .i64), .dead, .dead, .dead, .dead, .dead, .dead, .dead, .dead, .dead, .dead, .dead, .dead, .dead, .dead, .dead, .dead, .dead, .dead, .dead, .dead, .dead, .dead, .dead, .dead, .dead, .dead, .dead, .dead, .dead, .dead, .dead, .dead, .dead, .dead, .dead, .dead, .dead, .dead, .dead, .dead, .dead, .dead, .dead, .dead, .dead, .dead, .dead, .dead, .dead, .dead, .dead, .dead, .dead, .dead, .dead, .dead, .dead, .dead, .dead, .dead, .dead, .dead, .dead, .dead, .dead, .dead, .dead, .dead, .dead, .dead, .dead, .dead, .dead, .dead, .dead, .dead, .dead, .dead, .dead, .dead, .dead, .dead, .dead, .dead, .dead, .dead, .dead]
abbrev e_mat_Mul_0 : List (AX × List Slot) := [(AX.exit 0, [.dead, .dead, .dead, .dead, .dead, .dead, .dead, .dead, .box [.sl (.int .i64), .d .bool, .sl (.int .i64)], .dead, .dead, .dead, .dead, .dead, .dead, .box [.d (.sl (.int .i64)), .d .bool, .sl (.int .i64)], .dead, .dead, .dead, .dead, .dead, .dead, .dead, .dead, .dead, .dead, .dead, .dead, .dead, .dead, .dead, .dead, .dead, .dead, .dead, .dead, .dead, .dead, .dead, .dead, .dead, .dead, .dead, .dead, .dead, .dead, .dead, .dead, .dead, .dead, .dead, .dead, .dead, .dead, .dead, .dead, .dead, .dead, .dead, .dead, .dead, .dead, .dead, .dead, .dead, .dead, .dead, .dead, .dead, .dead, .dead, .dead, .dead, .dead, .dead, .dead, .dead, .dead, .dead, .dead, .dead, .dead, .dead, .dead, .dead, .dead, .dead, .dead, .dead, .dead, .dead, .dead, .dead, .dead, .dead, .dead, .dead, .dead, .dead, .dead, .dead, .dead, .dead, .dead])]
def g_mat_Mul_0 (N : Nat) : Nat → Int → Int → (((List Int × Bool) × List Int) × Unit) → (((List Int × Bool) × List Int) × Unit) → (List Int × (Bool × (List Int × Unit))) → Int → Int → Int → (List Int × (Bool × (List Int × Unit))) → Int → Option ((List Int × (Bool × (List Int × Unit))) × ((List Int × (Bool × (List Int × Unit))) × Unit))
  | 0, _, _, _, _, _, _, _, _, _, _ => none
  | n + 1, za_2, zb_3, a_4, b_5, t_8, m_12, k_13, n_14, out_15, i_16 =>
    cond (decide ((List.length (t_8).1) = (List.length (t_8).1)))
      (
      cond (decide ((List.length (((t_8).2).2).1) = (List.length (((t_8).2).2).1)))
        (
        cond (decide ((List.length (((out_15).2).2).1) = (List.length (((out_15).2).2).1)))
          (
          Option.bind (g_mat_Mul_1 N N za_2 zb_3 a_4 b_5 t_8 m_12 k_13 n_14 out_15 i_16 (0 : Int)) fun y8 =>
          Sum.elim (fun y9 =>
            cond (decide ((List.length ((y9).1).1) = (List.length ((y9).1).1)))
              (
              cond (decide ((List.length ((((y9).1).2).2).1) = (List.length ((((y9).1).2).2).1)))
                (
                cond (decide ((List.length (((((y9).2).1).2).2).1) = (List.length (((((y9).2).1).2).2).1)))
                  (
                  some y9)
                  (
                  none))
                (
                none))
              (
              none))
            (fun y10 =>
            cond (decide ((List.length ((((((y10).2).2).2).2).1).1) = (List.length ((((((y10).2).2).2).2).1).1)))
              (
              cond (decide ((List.length ((((((((y10).2).2).2).2).1).2).2).1) = (List.length ((((((((y10).2).2).2).2).1).2).2).1)))
                (
                cond (decide ((List.length ((((((((((((y10).2).2).2).2).2).2).2).2).1).2).2).1) = (List.length ((((((((((((y10).2).2).2).2).2).2).2).2).1).2).2).1)))
                  (
                  (g_mat_Mul_0 N n (y10).1 ((y10).2).1 (((y10).2).2).1 ((((y10).2).2).2).1 (((((y10).2).2).2).2).1 ((((((y10).2).2).2).2).2).1 (((((((y10).2).2).2).2).2).2).1 ((((((((y10).2).2).2).2).2).2).2).1 (((((((((y10).2).2).2).2).2).2).2).2).1 (wi64 (((((((((((y10).2).2).2).2).2).2).2).2).2).1 + (1 : Int)))))
                  (
                  none))
                (
                none))
              (
              none)) y8)
          (
          none))
        (
        none))
      (
      none)

def F_mat_Mul (N : Nat) (a_0 : ((List Int × Bool) × List Int)) (b_1 : ((List Int × Bool) × List Int)) (za_2 : Int) (zb_3 : Int) : Option ((List Int × (Bool × (List Int × Unit))) × (Er × Unit)) :=
  Option.bind (F_mat_result N a_0 b_1 za_2 zb_3) fun y0 =>
  cond (Bool.not (Go.Eng.Er.isNil ((y0).2).1))
    (
    some ((([] : List Int), (false, (([] : List Int), ()))), (y0).2))
    (
    cond (decide (0 < (List.length ((a_0).1).1)))
      (
      cond (decide (1 < (List.length ((a_0).1).1)))
        (
        cond (decide (1 < (List.length ((b_1).1).1)))
          (
          cond (decide ((0 : Int) ≤ (wi64 ((List.getD ((a_0).1).1 0 (0 : Int)) * (List.getD ((b_1).1).1 1 (0 : Int))))))
            (
            cond (decide ((wi64 ((List.getD ((a_0).1).1 0 (0 : Int)) * (List.getD ((b_1).1).1 1 (0 : Int)))) ≤ (wi64 ((List.getD ((a_0).1).1 0 (0 : Int)) * (List.getD ((b_1).1).1 1 (0 : Int))))))
              (
              cond (decide (((wi64 ((List.getD ((a_0).1).1 0 (0 : Int)) * (List.getD ((b_1).1).1 1 (0 : Int)))) * ((Nat.cast 8 : Int) + (1 : Int))) ≤ (Nat.cast Go.Eng.most : Int)))
                (
                cond (decide ((Int.toNat (wi64 ((List.getD ((a_0).1).1 0 (0 : Int)) * (List.getD ((b_1).1).1 1 (0 : Int))))) = (List.length (List.replicate (Int.toNat (wi64 ((List.getD ((a_0).1).1 0 (0 : Int)) * (List.getD ((b_1).1).1 1 (0 : Int))))) (0 : Int)))))
                  (
                  Option.bind (g_mat_Mul_0 N N za_2 zb_3 (a_0, ()) (b_1, ()) (([] : List Int), (false, (([] : List Int), ()))) (List.getD ((a_0).1).1 0 (0 : Int)) (List.getD ((a_0).1).1 1 (0 : Int)) (List.getD ((b_1).1).1 1 (0 : Int)) (((y0).1).1, (((y0).1).2, ((List.replicate (Int.toNat (wi64 ((List.getD ((a_0).1).1 0 (0 : Int)) * (List.getD ((b_1).1).1 1 (0 : Int))))) (0 : Int)), ()))) (0 : Int)) fun y1 =>
                  cond (decide ((List.length (((((y1).2).1).2).2).1) = (List.length (((((y1).2).1).2).2).1)))
                    (
                    some (((y1).2).1, (Go.Eng.Er.nil, ())))
                    (
                    none))
                  (
                  none))
                (
                none))
              (
              none))
            (
            none))
          (
          none))
        (
        none))
      (
      none))

abbrev c_mat_Mul (N : Nat) : CallSpec := ⟨11, ps_mat_Mul, rs_mat_Mul, fun x => F_mat_Mul N x.1 x.2.1 x.2.2.1 x.2.2.2.1⟩
abbrev l_mat_Mul_2 (N : Nat) : LoopSpec := ⟨2, h_mat_Mul_2, e_mat_Mul_2, fun x => g_mat_Mul_2 N N x.1 x.2.1 x.2.2.1 x.2.2.2.1 x.2.2.2.2.1 x.2.2.2.2.2.1 x.2.2.2.2.2.2.1 x.2.2.2.2.2.2.2.1 x.2.2.2.2.2.2.2.2.1 x.2.2.2.2.2.2.2.2.2.1 x.2.2.2.2.2.2.2.2.2.2.1 x.2.2.2.2.2.2.2.2.2.2.2.1 x.2.2.2.2.2.2.2.2.2.2.2.2.1 x.2.2.2.2.2.2.2.2.2.2.2.2.2.1⟩
abbrev l_mat_Mul_1 (N : Nat) : LoopSpec := ⟨1, h_mat_Mul_1, e_mat_Mul_1, fun x => g_mat_Mul_1 N N x.1 x.2.1 x.2.2.1 x.2.2.2.1 x.2.2.2.2.1 x.2.2.2.2.2.1 x.2.2.2.2.2.2.1 x.2.2.2.2.2.2.2.1 x.2.2.2.2.2.2.2.2.1 x.2.2.2.2.2.2.2.2.2.1 x.2.2.2.2.2.2.2.2.2.2.1⟩
abbrev l_mat_Mul_0 (N : Nat) : LoopSpec := ⟨0, h_mat_Mul_0, e_mat_Mul_0, fun x => g_mat_Mul_0 N N x.1 x.2.1 x.2.2.1 x.2.2.2.1 x.2.2.2.2.1 x.2.2.2.2.2.1 x.2.2.2.2.2.2.1 x.2.2.2.2.2.2.2.1 x.2.2.2.2.2.2.2.2.1 x.2.2.2.2.2.2.2.2.2.1⟩

theorem cs_mat_Mul_ok (S : Nat → Addr) (N : Nat) : CallsOK Go.Proofs.Tryd.prog E S (cs_mat_Mul N) :=
  .cons (F_mat_result_ok S N) (.cons (F_tens_Wide_ok S N) (.nil))
noncomputable abbrev b_mat_Mul_2 : Code := (loopsOf b_mat_Mul).getD 2 .skip
theorem g_mat_Mul_2_ok (S : Nat → Addr) (N : Nat) : ∀ n x y, (fun (x : Val (slotsTy h_mat_Mul_2)) => g_mat_Mul_2 N n x.1 x.2.1 x.2.2.1 x.2.2.2.1 x.2.2.2.2.1 x.2.2.2.2.2.1 x.2.2.2.2.2.2.1 x.2.2.2.2.2.2.2.1 x.2.2.2.2.2.2.2.2.1 x.2.2.2.2.2.2.2.2.2.1 x.2.2.2.2.2.2.2.2.2.2.1 x.2.2.2.2.2.2.2.2.2.2.2.1 x.2.2.2.2.2.2.2.2.2.2.2.2.1 x.2.2.2.2.2.2.2.2.2.2.2.2.2.1) x = some y → LoopCon Go.Proofs.Tryd.prog E S b_mat_Mul_2 (encSlots h_mat_Mul_2 x) (encEx e_mat_Mul_2 y).1 (encEx e_mat_Mul_2 y).2 :=
  loop_spec E_ok mixed (cs_mat_Mul_ok S N) (all := loopsOf b_mat_Mul) (ls := []) (.nil) (i := 2) (by kernel_rfl) (inner_of (by kernel_rfl)) (head := h_mat_Mul_2) (ex := e_mat_Mul_2) (fun n (x : Val (slotsTy h_mat_Mul_2)) => g_mat_Mul_2 N n x.1 x.2.1 x.2.2.1 x.2.2.2.1 x.2.2.2.2.1 x.2.2.2.2.2.1 x.2.2.2.2.2.2.1 x.2.2.2.2.2.2.2.1 x.2.2.2.2.2.2.2.2.1 x.2.2.2.2.2.2.2.2.2.1 x.2.2.2.2.2.2.2.2.2.2.1 x.2.2.2.2.2.2.2.2.2.2.2.1 x.2.2.2.2.2.2.2.2.2.2.2.2.1 x.2.2.2.2.2.2.2.2.2.2.2.2.2.1) (fun _ => rfl) (fun n x => by kernel_rfl)
noncomputable abbrev b_mat_Mul_1 : Code := (loopsOf b_mat_Mul).getD 1 .skip
theorem g_mat_Mul_1_ok (S : Nat → Addr) (N : Nat) : ∀ n x y, (fun (x : Val (slotsTy h_mat_Mul_1)) => g_mat_Mul_1 N n x.1 x.2.1 x.2.2.1 x.2.2.2.1 x.2.2.2.2.1 x.2.2.2.2.2.1 x.2.2.2.2.2.2.1 x.2.2.2.2.2.2.2.1 x.2.2.2.2.2.2.2.2.1 x.2.2.2.2.2.2.2.2.2.1 x.2.2.2.2.2.2.2.2.2.2.1) x = some y → LoopCon Go.Proofs.Tryd.prog E S b_mat_Mul_1 (encSlots h_mat_Mul_1 x) (encEx e_mat_Mul_1 y).1 (encEx e_mat_Mul_1 y).2 :=
  loop_spec E_ok mixed (cs_mat_Mul_ok S N) (all := loopsOf b_mat_Mul) (ls := [l_mat_Mul_2 N]) (.cons (by kernel_rfl) (g_mat_Mul_2_ok S N N) (.nil)) (i := 1) (by kernel_rfl) (inner_of (by kernel_rfl)) (head := h_mat_Mul_1) (ex := e_mat_Mul_1) (fun n (x : Val (slotsTy h_mat_Mul_1)) => g_mat_Mul_1 N n x.1 x.2.1 x.2.2.1 x.2.2.2.1 x.2.2.2.2.1 x.2.2.2.2.2.1 x.2.2.2.2.2.2.1 x.2.2.2.2.2.2.2.1 x.2.2.2.2.2.2.2.2.1 x.2.2.2.2.2.2.2.2.2.1 x.2.2.2.2.2.2.2.2.2.2.1) (fun _ => rfl) (fun n x => by kernel_rfl)
noncomputable abbrev b_mat_Mul_0 : Code := (loopsOf b_mat_Mul).getD 0 .skip
theorem g_mat_Mul_0_ok (S : Nat → Addr) (N : Nat) : ∀ n x y, (fun (x : Val (slotsTy h_mat_Mul_0)) => g_mat_Mul_0 N n x.1 x.2.1 x.2.2.1 x.2.2.2.1 x.2.2.2.2.1 x.2.2.2.2.2.1 x.2.2.2.2.2.2.1 x.2.2.2.2.2.2.2.1 x.2.2.2.2.2.2.2.2.1 x.2.2.2.2.2.2.2.2.2.1) x = some y → LoopCon Go.Proofs.Tryd.prog E S b_mat_Mul_0 (encSlots h_mat_Mul_0 x) (encEx e_mat_Mul_0 y).1 (encEx e_mat_Mul_0 y).2 :=
  loop_spec E_ok mixed (cs_mat_Mul_ok S N) (all := loopsOf b_mat_Mul) (ls := [l_mat_Mul_2 N, l_mat_Mul_1 N]) (.cons (by kernel_rfl) (g_mat_Mul_2_ok S N N) (.cons (by kernel_rfl) (g_mat_Mul_1_ok S N N) (.nil))) (i := 0) (by kernel_rfl) (inner_of (by kernel_rfl)) (head := h_mat_Mul_0) (ex := e_mat_Mul_0) (fun n (x : Val (slotsTy h_mat_Mul_0)) => g_mat_Mul_0 N n x.1 x.2.1 x.2.2.1 x.2.2.2.1 x.2.2.2.2.1 x.2.2.2.2.2.1 x.2.2.2.2.2.2.1 x.2.2.2.2.2.2.2.1 x.2.2.2.2.2.2.2.2.1 x.2.2.2.2.2.2.2.2.2.1) (fun _ => rfl) (fun n x => by kernel_rfl)
theorem F_mat_Mul_ok (S : Nat → Addr) (N : Nat) : ∀ x y, (c_mat_Mul N).g x = some y → FCon Go.Proofs.Tryd.prog E S 11 ps_mat_Mul rs_mat_Mul x y := by
  intro x y h
  exact fun_spec E_ok mixed (cs_mat_Mul_ok S N) (f := 11) (fi := ⟨b_mat_Mul, 104, Go.Proofs.Tryd.f11.results.toList⟩) (by kernel_rfl) (ls := [l_mat_Mul_2 N, l_mat_Mul_1 N, l_mat_Mul_0 N]) (.cons (by kernel_rfl) (g_mat_Mul_2_ok S N N) (.cons (by kernel_rfl) (g_mat_Mul_1_ok S N N) (.cons (by kernel_rfl) (g_mat_Mul_0_ok S N N) (.nil)))) (by kernel_rfl) (ps := ps_mat_Mul) (rs := rs_mat_Mul) (Eq.trans (b := F_mat_Mul N x.1 x.2.1 x.2.2.1 x.2.2.2.1) (by kernel_rfl) h)

/-! lodge/lodgeref.SameInts -/

abbrev ps_lodgeref_SameInts : List Ty := [(.sl (.int .i64)), (.sl (.int .i64))]
abbrev rs_lodgeref_SameInts : List Slot := [.data .bool]
abbrev cs_lodgeref_SameInts (N : Nat) : List CallSpec := []
noncomputable abbrev b_lodgeref_SameInts : Code := (Go.Proofs.Tryd.f12.body).getD .skip

abbrev h_lodgeref_SameInts_0 : List Slot := [.data (.sl (.int .i64)), .data (.sl (.int .i64)), .dead, .dead, .dead, .data (.int .i64), .dead, .dead, .dead, .dead, .dead, .dead, .dead, .dead, .dead, .dead, .dead, .dead, .dead, .dead, .dead, .dead, .dead, .dead, .dead, .dead, .dead, .dead, .dead]
abbrev e_lodgeref_SameInts_0 : List (AX × List Slot) := [(AX.exit 0, [.dead, .dead, .dead, .dead, .dead, .dead, .dead, .dead, .dead, .dead, .dead, .dead, .dead, .dead, .dead, .dead, .dead, .dead, .dead, .dead, .dead, .dead, .dead, .dead, .dead, .dead, .dead, .dead, .dead]), (AX.ret, [.dead, .dead, .dead, .dead, .data .bool, .dead, .dead, .dead, .dead, .dead, .dead, .dead, .dead, .dead, .dead, .dead, .dead, .dead, .dead, .dead, .dead, .dead, .dead, .dead, .dead, .dead, .dead, .dead, .dead])]
def g_lodgeref_SameInts_0 (N : Nat) : Nat → List Int → List Int → Int → Option (Sum Unit (Bool × Unit))
  | 0, _, _, _ => none
  | n + 1, a_0, b_1, i_5 =>
    cond (decide (i_5 < (Nat.cast (List.length a_0) : Int)))
      (
      cond (decide ((0 : Int) ≤ i_5))
        (
        cond (decide ((Int.toNat i_5) < (List.length a_0)))
          (
          cond (decide ((0 : Int) ≤ i_5))
            (
            cond (decide ((Int.toNat i_5) < (List.length b_1)))
              (
              cond (Bool.not (decide ((List.getD a_0 (Int.toNat i_5) (0 : Int)) = (List.getD b_1 (Int.toNat i_5) (0 : Int)))))
                (
                some (Sum.inr (false, ())))
                (
                (g_lodgeref_SameInts_0 N n a_0 b_1 (wi64 (i_5 + (1 : Int))))))
              (
              none))
            (
            none))
          (
          none))
        (
        none))
      (
      some (Sum.inl ()))

def F_lodgeref_SameInts (N : Nat) (a_0 : List Int) (b_1 : List Int) : Option (Bool × Unit) :=
  cond (decide (@Ne Int (Nat.cast (List.length a_0) : Int) (Nat.cast (List.length b_1) : Int)))
    (
    some (false, ()))
    (
    Option.bind (g_lodgeref_SameInts_0 N N a_0 b_1 (0 : Int)) fun y0 =>
    Sum.elim (fun y1 =>
      some (true, ()))
      (fun y2 =>
      some y2) y0)

abbrev c_lodgeref_SameInts (N : Nat) : CallSpec := ⟨12, ps_lodgeref_SameInts, rs_lodgeref_SameInts, fun x => F_lodgeref_SameInts N x.1 x.2.1⟩
abbrev l_lodgeref_SameInts_0 (N : Nat) : LoopSpec := ⟨0, h_lodgeref_SameInts_0, e_lodgeref_SameInts_0, fun x => g_lodgeref_SameInts_0 N N x.1 x.2.1 x.2.2.1⟩

theorem cs_lodgeref_SameInts_ok (S : Nat → Addr) (N : Nat) : CallsOK Go.Proofs.Tryd.prog E S (cs_lodgeref_SameInts N) :=
  .nil
noncomputable abbrev b_lodgeref_SameInts_0 : Code := (loopsOf b_lodgeref_SameInts).getD 0 .skip
theorem g_lodgeref_SameInts_0_ok (S : Nat → Addr) (N : Nat) : ∀ n x y, (fun (x : Val (slotsTy h_lodgeref_SameInts_0)) => g_lodgeref_SameInts_0 N n x.1 x.2.1 x.2.2.1) x = some y → LoopCon Go.Proofs.Tryd.prog E S b_lodgeref_SameInts_0 (encSlots h_lodgeref_SameInts_0 x) (encEx e_lodgeref_SameInts_0 y).1 (encEx e_lodgeref_SameInts_0 y).2 :=
  loop_spec E_ok mixed (cs_lodgeref_SameInts_ok S N) (all := loopsOf b_lodgeref_SameInts) (ls := []) (.nil) (i := 0) (by kernel_rfl) (inner_of (by kernel_rfl)) (head := h_lodgeref_SameInts_0) (ex := e_lodgeref_SameInts_0) (fun n (x : Val (slotsTy h_lodgeref_SameInts_0)) => g_lodgeref_SameInts_0 N n x.1 x.2.1 x.2.2.1) (fun _ => rfl) (fun n x => by kernel_rfl)
theorem F_lodgeref_SameInts_ok (S : Nat → Addr) (N : Nat) : ∀ x y, (c_lodgeref_SameInts N).g x = some y → FCon Go.Proofs.Tryd.prog E S 12 ps_lodgeref_SameInts rs_lodgeref_SameInts x y := by
  intro x y h
  exact fun_spec E_ok mixed (cs_lodgeref_SameInts_ok S N) (f := 12) (fi := ⟨b_lodgeref_SameInts, 29, Go.Proofs.Tryd.f12.results.toList⟩) (by kernel_rfl) (ls := [l_lodgeref_SameInts_0 N]) (.cons (by kernel_rfl) (g_lodgeref_SameInts_0_ok S N N) (.nil)) (by kernel_rfl) (ps := ps_lodgeref_SameInts) (rs := rs_lodgeref_SameInts) (Eq.trans (b := F_lodgeref_SameInts N x.1 x.2.1) (by kernel_rfl) h)

/-! lodge/lodgelaw8.first -/

abbrev ps_lodgelaw8_first : List Ty := []
abbrev rs_lodgelaw8_first : List Slot := [.data .bool]
abbrev cs_lodgelaw8_first (N : Nat) : List CallSpec := [c_mat_Mul N, c_lodgeref_SameInts N]
noncomputable abbrev b_lodgelaw8_first : Code := (Go.Proofs.Tryd.f7.body).getD .skip

def F_lodgelaw8_first (N : Nat)  : Option (Bool × Unit) :=
  Option.bind (F_mat_Mul N ((((1 : Int) :: ((2 : Int) :: ([] : List Int))), false), ((1 : Int) :: ((2 : Int) :: ([] : List Int)))) ((((2 : Int) :: ((1 : Int) :: ([] : List Int))), false), ((3 : Int) :: ((4 : Int) :: ([] : List Int)))) (0 : Int) (0 : Int)) fun y0 =>
  cond (Go.Eng.Er.isNil ((y0).2).1)
    (
    cond (decide (((0 : Nat) + (List.length ((((y0).1).2).2).1)) ≤ (List.length ((((y0).1).2).2).1)))
      (
      Option.bind (F_lodgeref_SameInts N (List.take (List.length ((((y0).1).2).2).1) ((((y0).1).2).2).1) ((11 : Int) :: ([] : List Int))) fun y1 =>
      some y1)
      (
      none))
    (
    some (false, ()))

abbrev c_lodgelaw8_first (N : Nat) : CallSpec := ⟨7, ps_lodgelaw8_first, rs_lodgelaw8_first, fun x => F_lodgelaw8_first N ⟩

theorem cs_lodgelaw8_first_ok (S : Nat → Addr) (N : Nat) : CallsOK Go.Proofs.Tryd.prog E S (cs_lodgelaw8_first N) :=
  .cons (F_mat_Mul_ok S N) (.cons (F_lodgeref_SameInts_ok S N) (.nil))
theorem F_lodgelaw8_first_ok (S : Nat → Addr) (N : Nat) : ∀ x y, (c_lodgelaw8_first N).g x = some y → FCon Go.Proofs.Tryd.prog E S 7 ps_lodgelaw8_first rs_lodgelaw8_first x y := by
  intro x y h
  exact fun_spec E_ok mixed (cs_lodgelaw8_first_ok S N) (f := 7) (fi := ⟨b_lodgelaw8_first, 27, Go.Proofs.Tryd.f7.results.toList⟩) (by kernel_rfl) (ls := []) (.nil) (by kernel_rfl) (ps := ps_lodgelaw8_first) (rs := rs_lodgelaw8_first) (Eq.trans (b := F_lodgelaw8_first N ) (by kernel_rfl) h)

/-! lodge/lodgeworld.Desc -/

abbrev ps_lodgeworld_Desc : List Ty := [(.st (.pair (.sl (.int .i64)) .bool))]
abbrev rs_lodgeworld_Desc : List Slot := [.data .bool]
abbrev cs_lodgeworld_Desc (N : Nat) : List CallSpec := []
noncomputable abbrev b_lodgeworld_Desc : Code := (Go.Proofs.Tryd.f34.body).getD .skip

def F_lodgeworld_Desc (N : Nat) (d_0 : (List Int × Bool)) : Option (Bool × Unit) :=
  some ((decide ((Nat.cast (List.length (d_0).1) : Int) ≤ (8 : Int))), ())

abbrev c_lodgeworld_Desc (N : Nat) : CallSpec := ⟨34, ps_lodgeworld_Desc, rs_lodgeworld_Desc, fun x => F_lodgeworld_Desc N x.1⟩

theorem cs_lodgeworld_Desc_ok (S : Nat → Addr) (N : Nat) : CallsOK Go.Proofs.Tryd.prog E S (cs_lodgeworld_Desc N) :=
  .nil
theorem F_lodgeworld_Desc_ok (S : Nat → Addr) (N : Nat) : ∀ x y, (c_lodgeworld_Desc N).g x = some y → FCon Go.Proofs.Tryd.prog E S 34 ps_lodgeworld_Desc rs_lodgeworld_Desc x y := by
  intro x y h
  exact fun_spec E_ok mixed (cs_lodgeworld_Desc_ok S N) (f := 34) (fi := ⟨b_lodgeworld_Desc, 7, Go.Proofs.Tryd.f34.results.toList⟩) (by kernel_rfl) (ls := []) (.nil) (by kernel_rfl) (ps := ps_lodgeworld_Desc) (rs := rs_lodgeworld_Desc) (Eq.trans (b := F_lodgeworld_Desc N x.1) (by kernel_rfl) h)

/-! lodge/lodgeworld.Tensor -/

abbrev ps_lodgeworld_Tensor : List Ty := [(.st (.pair (.st (.pair (.sl (.int .i64)) .bool)) (.sl (.int .i64)))), (.int .i64)]
abbrev rs_lodgeworld_Tensor : List Slot := [.data .bool]
abbrev cs_lodgeworld_Tensor (N : Nat) : List CallSpec := [c_lodgeworld_Desc N]
noncomputable abbrev b_lodgeworld_Tensor : Code := (Go.Proofs.Tryd.f16.body).getD .skip

def F_lodgeworld_Tensor (N : Nat) (t_0 : ((List Int × Bool) × List Int)) (most_1 : Int) : Option (Bool × Unit) :=
  Option.bind (F_lodgeworld_Desc N (t_0).1) fun y0 =>
  cond (y0).1
    (
    some ((decide ((Nat.cast (List.length (t_0).2) : Int) ≤ most_1)), ()))
    (
    some (false, ()))

abbrev c_lodgeworld_Tensor (N : Nat) : CallSpec := ⟨16, ps_lodgeworld_Tensor, rs_lodgeworld_Tensor, fun x => F_lodgeworld_Tensor N x.1 x.2.1⟩

theorem cs_lodgeworld_Tensor_ok (S : Nat → Addr) (N : Nat) : CallsOK Go.Proofs.Tryd.prog E S (cs_lodgeworld_Tensor N) :=
  .cons (F_lodgeworld_Desc_ok S N) (.nil)
theorem F_lodgeworld_Tensor_ok (S : Nat → Addr) (N : Nat) : ∀ x y, (c_lodgeworld_Tensor N).g x = some y → FCon Go.Proofs.Tryd.prog E S 16 ps_lodgeworld_Tensor rs_lodgeworld_Tensor x y := by
  intro x y h
  exact fun_spec E_ok mixed (cs_lodgeworld_Tensor_ok S N) (f := 16) (fi := ⟨b_lodgeworld_Tensor, 15, Go.Proofs.Tryd.f16.results.toList⟩) (by kernel_rfl) (ls := []) (.nil) (by kernel_rfl) (ps := ps_lodgeworld_Tensor) (rs := rs_lodgeworld_Tensor) (Eq.trans (b := F_lodgeworld_Tensor N x.1 x.2.1) (by kernel_rfl) h)

/-! lodge/lodgeref3.ValidDesc -/

abbrev ps_lodgeref3_ValidDesc : List Ty := [(.st (.pair (.sl (.int .i64)) .bool))]
abbrev rs_lodgeref3_ValidDesc : List Slot := [.data (.int .i64)]
abbrev cs_lodgeref3_ValidDesc (N : Nat) : List CallSpec := []
noncomputable abbrev b_lodgeref3_ValidDesc : Code := (Go.Proofs.Tryd.f53.body).getD .skip

abbrev h_lodgeref3_ValidDesc_0 : List Slot := [.dead, .box [.d (.st (.pair (.sl (.int .i64)) .bool))], .dead, .data (.int .i64), .data (.int .i64), .dead, .dead, .dead, .dead, .dead, .dead, .dead, .dead, .dead, .dead, .dead, .dead, .dead, .dead, .dead, .dead, .dead, .dead, .dead, .dead, .dead, .dead, .dead, .dead, .dead, .dead, .dead, .dead, .dead, .dead, .dead, .dead, .dead, .dead]
abbrev e_lodgeref3_ValidDesc_0 : List (AX × List Slot) := [(AX.exit 0, [.dead, .dead, .dead, .data (.int .i64), .dead, .dead, .dead, .dead, .dead, .dead, .dead, .dead, .dead, .dead, .dead, .dead, .dead, .dead, .dead, .dead, .dead, .dead, .dead, .dead, .dead, .dead, .dead, .dead, .dead, .dead, .dead, .dead, .dead, .dead, .dead, .dead, .dead, .dead, .dead]), (AX.ret, [.dead, .dead, .data (.int .i64), .dead, .dead, .dead, .dead, .dead, .dead, .dead, .dead, .dead, .dead, .dead, .dead, .dead, .dead, .dead, .dead, .dead, .dead, .dead, .dead, .dead, .dead, .dead, .dead, .dead, .dead, .dead, .dead, .dead, .dead, .dead, .dead, .dead, .dead, .dead, .dead])]
def g_lodgeref3_ValidDesc_0 (N : Nat) : Nat → ((List Int × Bool) × Unit) → Int → Int → Option (Sum (Int × Unit) (Int × Unit))
  | 0, _, _, _ => none
  | n + 1, d_1, n_3, i_4 =>
    cond (decide (i_4 < (Nat.cast (List.length ((d_1).1).1) : Int)))
      (
      cond (decide ((0 : Int) ≤ i_4))
        (
        cond (decide ((Int.toNat i_4) < (List.length ((d_1).1).1)))
          (
          cond (decide ((List.getD ((d_1).1).1 (Int.toNat i_4) (0 : Int)) < (1 : Int)))
            (
            some (Sum.inr ((102 : Int), ())))
            (
            cond (decide ((0 : Int) ≤ i_4))
              (
              cond (decide ((Int.toNat i_4) < (List.length ((d_1).1).1)))
                (
                cond (decide ((256 : Int) < (List.getD ((d_1).1).1 (Int.toNat i_4) (0 : Int))))
                  (
                  some (Sum.inr ((102 : Int), ())))
                  (
                  cond (decide ((0 : Int) ≤ i_4))
                    (
                    cond (decide ((Int.toNat i_4) < (List.length ((d_1).1).1)))
                      (
                      (g_lodgeref3_ValidDesc_0 N n d_1 (wi64 (n_3 * (List.getD ((d_1).1).1 (Int.toNat i_4) (0 : Int)))) (wi64 (i_4 + (1 : Int)))))
                      (
                      none))
                    (
                    none)))
                (
                none))
              (
              none)))
          (
          none))
        (
        none))
      (
      some (Sum.inl (n_3, ())))

def F_lodgeref3_ValidDesc (N : Nat) (d_0 : (List Int × Bool)) : Option (Int × Unit) :=
  cond (decide ((4 : Int) < (Nat.cast (List.length (d_0).1) : Int)))
    (
    some ((104 : Int), ()))
    (
    Option.bind (g_lodgeref3_ValidDesc_0 N N (d_0, ()) (1 : Int) (0 : Int)) fun y0 =>
    Sum.elim (fun y1 =>
      cond (decide ((16384 : Int) < (y1).1))
        (
        some ((104 : Int), ()))
        (
        some ((0 : Int), ())))
      (fun y2 =>
      some y2) y0)

abbrev c_lodgeref3_ValidDesc (N : Nat) : CallSpec := ⟨53, ps_lodgeref3_ValidDesc, rs_lodgeref3_ValidDesc, fun x => F_lodgeref3_ValidDesc N x.1⟩
abbrev l_lodgeref3_ValidDesc_0 (N : Nat) : LoopSpec := ⟨0, h_lodgeref3_ValidDesc_0, e_lodgeref3_ValidDesc_0, fun x => g_lodgeref3_ValidDesc_0 N N x.1 x.2.1 x.2.2.1⟩

theorem cs_lodgeref3_ValidDesc_ok (S : Nat → Addr) (N : Nat) : CallsOK Go.Proofs.Tryd.prog E S (cs_lodgeref3_ValidDesc N) :=
  .nil
noncomputable abbrev b_lodgeref3_ValidDesc_0 : Code := (loopsOf b_lodgeref3_ValidDesc).getD 0 .skip
theorem g_lodgeref3_ValidDesc_0_ok (S : Nat → Addr) (N : Nat) : ∀ n x y, (fun (x : Val (slotsTy h_lodgeref3_ValidDesc_0)) => g_lodgeref3_ValidDesc_0 N n x.1 x.2.1 x.2.2.1) x = some y → LoopCon Go.Proofs.Tryd.prog E S b_lodgeref3_ValidDesc_0 (encSlots h_lodgeref3_ValidDesc_0 x) (encEx e_lodgeref3_ValidDesc_0 y).1 (encEx e_lodgeref3_ValidDesc_0 y).2 :=
  loop_spec E_ok mixed (cs_lodgeref3_ValidDesc_ok S N) (all := loopsOf b_lodgeref3_ValidDesc) (ls := []) (.nil) (i := 0) (by kernel_rfl) (inner_of (by kernel_rfl)) (head := h_lodgeref3_ValidDesc_0) (ex := e_lodgeref3_ValidDesc_0) (fun n (x : Val (slotsTy h_lodgeref3_ValidDesc_0)) => g_lodgeref3_ValidDesc_0 N n x.1 x.2.1 x.2.2.1) (fun _ => rfl) (fun n x => by kernel_rfl)
theorem F_lodgeref3_ValidDesc_ok (S : Nat → Addr) (N : Nat) : ∀ x y, (c_lodgeref3_ValidDesc N).g x = some y → FCon Go.Proofs.Tryd.prog E S 53 ps_lodgeref3_ValidDesc rs_lodgeref3_ValidDesc x y := by
  intro x y h
  exact fun_spec E_ok mixed (cs_lodgeref3_ValidDesc_ok S N) (f := 53) (fi := ⟨b_lodgeref3_ValidDesc, 39, Go.Proofs.Tryd.f53.results.toList⟩) (by kernel_rfl) (ls := [l_lodgeref3_ValidDesc_0 N]) (.cons (by kernel_rfl) (g_lodgeref3_ValidDesc_0_ok S N N) (.nil)) (by kernel_rfl) (ps := ps_lodgeref3_ValidDesc) (rs := rs_lodgeref3_ValidDesc) (Eq.trans (b := F_lodgeref3_ValidDesc N x.1) (by kernel_rfl) h)

/-! lodge/lodgeref.Bare -/

abbrev ps_lodgeref_Bare : List Ty := [(.int .i64)]
abbrev rs_lodgeref_Bare : List Slot := [.data (.st (.pair (.int .i64) (.pair .bool (.int .i64))))]
abbrev cs_lodgeref_Bare (N : Nat) : List CallSpec := []
noncomputable abbrev b_lodgeref_Bare : Code := (Go.Proofs.Tryd.f38.body).getD .skip

def F_lodgeref_Bare (N : Nat) (code_0 : Int) : Option ((Int × (Bool × Int)) × Unit) :=
  some ((code_0, (false, (0 : Int))), ())

abbrev c_lodgeref_Bare (N : Nat) : CallSpec := ⟨38, ps_lodgeref_Bare, rs_lodgeref_Bare, fun x => F_lodgeref_Bare N x.1⟩

theorem cs_lodgeref_Bare_ok (S : Nat → Addr) (N : Nat) : CallsOK Go.Proofs.Tryd.prog E S (cs_lodgeref_Bare N) :=
  .nil
theorem F_lodgeref_Bare_ok (S : Nat → Addr) (N : Nat) : ∀ x y, (c_lodgeref_Bare N).g x = some y → FCon Go.Proofs.Tryd.prog E S 38 ps_lodgeref_Bare rs_lodgeref_Bare x y := by
  intro x y h
  exact fun_spec E_ok mixed (cs_lodgeref_Bare_ok S N) (f := 38) (fi := ⟨b_lodgeref_Bare, 5, Go.Proofs.Tryd.f38.results.toList⟩) (by kernel_rfl) (ls := []) (.nil) (by kernel_rfl) (ps := ps_lodgeref_Bare) (rs := rs_lodgeref_Bare) (Eq.trans (b := F_lodgeref_Bare N x.1) (by kernel_rfl) h)

/-! lodge/lodgeref3.Elems -/

abbrev ps_lodgeref3_Elems : List Ty := [(.sl (.int .i64))]
abbrev rs_lodgeref3_Elems : List Slot := [.data (.int .i64)]
abbrev cs_lodgeref3_Elems (N : Nat) : List CallSpec := [c_lodgeref3_ValidDesc N]
noncomputable abbrev b_lodgeref3_Elems : Code := (Go.Proofs.Tryd.f50.body).getD .skip

abbrev h_lodgeref3_Elems_0 : List Slot := [.data (.sl (.int .i64)), .dead, .dead, .data (.int .i64), .data (.int .i64), .dead, .dead, .dead, .dead, .dead, .dead, .dead, .dead, .dead, .dead, .dead, .dead, .dead, .dead, .dead, .dead, .dead]
abbrev e_lodgeref3_Elems_0 : List (AX × List Slot) := [(AX.exit 0, [.dead, .dead, .dead, .data (.int .i64), .dead, .dead, .dead, .dead, .dead, .dead, .dead, .dead, .dead, .dead, .dead, .dead, .dead, .dead, .dead, .dead, .dead, .dead])]
def g_lodgeref3_Elems_0 (N : Nat) : Nat → List Int → Int → Int → Option (Int × Unit)
  | 0, _, _, _ => none
  | n + 1, shape_0, n_3, i_4 =>
    cond (decide (i_4 < (Nat.cast (List.length shape_0) : Int)))
      (
      cond (decide ((0 : Int) ≤ i_4))
        (
        cond (decide ((Int.toNat i_4) < (List.length shape_0)))
          (
          (g_lodgeref3_Elems_0 N n shape_0 (wi64 (n_3 * (List.getD shape_0 (Int.toNat i_4) (0 : Int)))) (wi64 (i_4 + (1 : Int)))))
          (
          none))
        (
        none))
      (
      some (n_3, ()))

def F_lodgeref3_Elems (N : Nat) (shape_0 : List Int) : Option (Int × Unit) :=
  Option.bind (F_lodgeref3_ValidDesc N (shape_0, false)) fun y0 =>
  cond (decide (@Ne Int (y0).1 (0 : Int)))
    (
    some ((0 : Int), ()))
    (
    Option.bind (g_lodgeref3_Elems_0 N N shape_0 (1 : Int) (0 : Int)) fun y1 =>
    some y1)

abbrev c_lodgeref3_Elems (N : Nat) : CallSpec := ⟨50, ps_lodgeref3_Elems, rs_lodgeref3_Elems, fun x => F_lodgeref3_Elems N x.1⟩
abbrev l_lodgeref3_Elems_0 (N : Nat) : LoopSpec := ⟨0, h_lodgeref3_Elems_0, e_lodgeref3_Elems_0, fun x => g_lodgeref3_Elems_0 N N x.1 x.2.1 x.2.2.1⟩

theorem cs_lodgeref3_Elems_ok (S : Nat → Addr) (N : Nat) : CallsOK Go.Proofs.Tryd.prog E S (cs_lodgeref3_Elems N) :=
  .cons (F_lodgeref3_ValidDesc_ok S N) (.nil)
noncomputable abbrev b_lodgeref3_Elems_0 : Code := (loopsOf b_lodgeref3_Elems).getD 0 .skip
theorem g_lodgeref3_Elems_0_ok (S : Nat → Addr) (N : Nat) : ∀ n x y, (fun (x : Val (slotsTy h_lodgeref3_Elems_0)) => g_lodgeref3_Elems_0 N n x.1 x.2.1 x.2.2.1) x = some y → LoopCon Go.Proofs.Tryd.prog E S b_lodgeref3_Elems_0 (encSlots h_lodgeref3_Elems_0 x) (encEx e_lodgeref3_Elems_0 y).1 (encEx e_lodgeref3_Elems_0 y).2 :=
  loop_spec E_ok mixed (cs_lodgeref3_Elems_ok S N) (all := loopsOf b_lodgeref3_Elems) (ls := []) (.nil) (i := 0) (by kernel_rfl) (inner_of (by kernel_rfl)) (head := h_lodgeref3_Elems_0) (ex := e_lodgeref3_Elems_0) (fun n (x : Val (slotsTy h_lodgeref3_Elems_0)) => g_lodgeref3_Elems_0 N n x.1 x.2.1 x.2.2.1) (fun _ => rfl) (fun n x => by kernel_rfl)
theorem F_lodgeref3_Elems_ok (S : Nat → Addr) (N : Nat) : ∀ x y, (c_lodgeref3_Elems N).g x = some y → FCon Go.Proofs.Tryd.prog E S 50 ps_lodgeref3_Elems rs_lodgeref3_Elems x y := by
  intro x y h
  exact fun_spec E_ok mixed (cs_lodgeref3_Elems_ok S N) (f := 50) (fi := ⟨b_lodgeref3_Elems, 22, Go.Proofs.Tryd.f50.results.toList⟩) (by kernel_rfl) (ls := [l_lodgeref3_Elems_0 N]) (.cons (by kernel_rfl) (g_lodgeref3_Elems_0_ok S N N) (.nil)) (by kernel_rfl) (ps := ps_lodgeref3_Elems) (rs := rs_lodgeref3_Elems) (Eq.trans (b := F_lodgeref3_Elems N x.1) (by kernel_rfl) h)

/-! lodge/lodgeref3.in -/

abbrev ps_lodgeref3_in : List Ty := [(.int .i64), .bool]
abbrev rs_lodgeref3_in : List Slot := [.data .bool]
abbrev cs_lodgeref3_in (N : Nat) : List CallSpec := []
noncomputable abbrev b_lodgeref3_in : Code := (Go.Proofs.Tryd.f54.body).getD .skip

def F_lodgeref3_in (N : Nat) (n_0 : Int) (wide_1 : Bool) : Option (Bool × Unit) :=
  cond wide_1
    (
    cond (decide ((-(2147483648 : Int)) ≤ n_0))
      (
      some ((decide (n_0 ≤ (2147483647 : Int))), ()))
      (
      some (false, ())))
    (
    cond (decide ((-(128 : Int)) ≤ n_0))
      (
      some ((decide (n_0 ≤ (127 : Int))), ()))
      (
      some (false, ())))

abbrev c_lodgeref3_in (N : Nat) : CallSpec := ⟨54, ps_lodgeref3_in, rs_lodgeref3_in, fun x => F_lodgeref3_in N x.1 x.2.1⟩

theorem cs_lodgeref3_in_ok (S : Nat → Addr) (N : Nat) : CallsOK Go.Proofs.Tryd.prog E S (cs_lodgeref3_in N) :=
  .nil
theorem F_lodgeref3_in_ok (S : Nat → Addr) (N : Nat) : ∀ x y, (c_lodgeref3_in N).g x = some y → FCon Go.Proofs.Tryd.prog E S 54 ps_lodgeref3_in rs_lodgeref3_in x y := by
  intro x y h
  exact fun_spec E_ok mixed (cs_lodgeref3_in_ok S N) (f := 54) (fi := ⟨b_lodgeref3_in, 18, Go.Proofs.Tryd.f54.results.toList⟩) (by kernel_rfl) (ls := []) (.nil) (by kernel_rfl) (ps := ps_lodgeref3_in) (rs := rs_lodgeref3_in) (Eq.trans (b := F_lodgeref3_in N x.1 x.2.1) (by kernel_rfl) h)

/-! lodge/lodgeref.None -/

abbrev ps_lodgeref_None : List Ty := []
abbrev rs_lodgeref_None : List Slot := [.data (.st (.pair (.int .i64) (.pair .bool (.int .i64))))]
abbrev cs_lodgeref_None (N : Nat) : List CallSpec := []
noncomputable abbrev b_lodgeref_None : Code := (Go.Proofs.Tryd.f41.body).getD .skip

def F_lodgeref_None (N : Nat)  : Option ((Int × (Bool × Int)) × Unit) :=
  some (((0 : Int), (false, (0 : Int))), ())

abbrev c_lodgeref_None (N : Nat) : CallSpec := ⟨41, ps_lodgeref_None, rs_lodgeref_None, fun x => F_lodgeref_None N ⟩

theorem cs_lodgeref_None_ok (S : Nat → Addr) (N : Nat) : CallsOK Go.Proofs.Tryd.prog E S (cs_lodgeref_None N) :=
  .nil
theorem F_lodgeref_None_ok (S : Nat → Addr) (N : Nat) : ∀ x y, (c_lodgeref_None N).g x = some y → FCon Go.Proofs.Tryd.prog E S 41 ps_lodgeref_None rs_lodgeref_None x y := by
  intro x y h
  exact fun_spec E_ok mixed (cs_lodgeref_None_ok S N) (f := 41) (fi := ⟨b_lodgeref_None, 2, Go.Proofs.Tryd.f41.results.toList⟩) (by kernel_rfl) (ls := []) (.nil) (by kernel_rfl) (ps := ps_lodgeref_None) (rs := rs_lodgeref_None) (Eq.trans (b := F_lodgeref_None N ) (by kernel_rfl) h)

/-! lodge/lodgeref.Placed -/

abbrev ps_lodgeref_Placed : List Ty := [(.int .i64), (.int .i64)]
abbrev rs_lodgeref_Placed : List Slot := [.data (.st (.pair (.int .i64) (.pair .bool (.int .i64))))]
abbrev cs_lodgeref_Placed (N : Nat) : List CallSpec := [c_lodgeref_None N]
noncomputable abbrev b_lodgeref_Placed : Code := (Go.Proofs.Tryd.f55.body).getD .skip

def F_lodgeref_Placed (N : Nat) (code_0 : Int) (pos_1 : Int) : Option ((Int × (Bool × Int)) × Unit) :=
  cond (decide (code_0 = (0 : Int)))
    (
    Option.bind (F_lodgeref_None N) fun y0 =>
    some y0)
    (
    some ((code_0, (true, pos_1)), ()))

abbrev c_lodgeref_Placed (N : Nat) : CallSpec := ⟨55, ps_lodgeref_Placed, rs_lodgeref_Placed, fun x => F_lodgeref_Placed N x.1 x.2.1⟩

theorem cs_lodgeref_Placed_ok (S : Nat → Addr) (N : Nat) : CallsOK Go.Proofs.Tryd.prog E S (cs_lodgeref_Placed N) :=
  .cons (F_lodgeref_None_ok S N) (.nil)
theorem F_lodgeref_Placed_ok (S : Nat → Addr) (N : Nat) : ∀ x y, (c_lodgeref_Placed N).g x = some y → FCon Go.Proofs.Tryd.prog E S 55 ps_lodgeref_Placed rs_lodgeref_Placed x y := by
  intro x y h
  exact fun_spec E_ok mixed (cs_lodgeref_Placed_ok S N) (f := 55) (fi := ⟨b_lodgeref_Placed, 11, Go.Proofs.Tryd.f55.results.toList⟩) (by kernel_rfl) (ls := []) (.nil) (by kernel_rfl) (ps := ps_lodgeref_Placed) (rs := rs_lodgeref_Placed) (Eq.trans (b := F_lodgeref_Placed N x.1 x.2.1) (by kernel_rfl) h)

/-! lodge/lodgeref3.Valid -/

abbrev ps_lodgeref3_Valid : List Ty := [(.st (.pair (.st (.pair (.sl (.int .i64)) .bool)) (.sl (.int .i64))))]
abbrev rs_lodgeref3_Valid : List Slot := [.data (.st (.pair (.int .i64) (.pair .bool (.int .i64))))]
abbrev cs_lodgeref3_Valid (N : Nat) : List CallSpec := [c_lodgeref3_ValidDesc N, c_lodgeref_Bare N, c_lodgeref3_Elems N, c_lodgeref3_in N, c_lodgeref_None N, c_lodgeref_Placed N]
noncomputable abbrev b_lodgeref3_Valid : Code := (Go.Proofs.Tryd.f35.body).getD .skip

abbrev h_lodgeref3_Valid_0 : List Slot := [.dead, .box [.d (.st (.pair (.st (.pair (.sl (.int .i64)) .bool)) (.sl (.int .i64))))], .box [.d (.st (.pair (.int .i64) (.pair .bool (.int .i64))))], .dead, .data (.int .i64), .dead, .dead, .dead, .dead, .dead, .dead, .dead, .dead, .dead, .dead, .dead, .dead, .dead, .dead, .dead, .dead, .dead, .dead, .dead, .dead, .dead, .dead, .dead, .dead, .dead, .dead, .dead, .dead, .dead, .dead, .dead, .dead, .dead, .dead, .dead, .dead]
abbrev e_lodgeref3_Valid_0 : List (AX × List Slot) := [(AX.exit 0, [.dead, .dead, .box [.d (.st (.pair (.int .i64) (.pair .bool (.int .i64))))], .dead, .dead, .dead, .dead, .dead, .dead, .dead, .dead, .dead, .dead, .dead, .dead, .dead, .dead, .dead, .dead, .dead, .dead, .dead, .dead, .dead, .dead, .dead, .dead, .dead, .dead, .dead, .dead, .dead, .dead, .dead, .dead, .dead, .dead, .dead, .dead, .dead, .dead]), (AX.ret, [.dead, .dead, .box [.d (.st (.pair (.int .i64) (.pair .bool (.int .i64))))], .dead, .dead, .dead, .dead, .dead, .dead, .dead, .dead, .dead, .dead, .dead, .dead, .dead, .dead, .dead, .dead, .dead, .dead, .dead, .dead, .dead, .dead, .dead, .dead, .dead, .dead, .dead, .dead, .dead, .dead, .dead, .dead, .dead, .dead, .dead, .dead, .dead, .dead])]
def g_lodgeref3_Valid_0 (N : Nat) : Nat → (((List Int × Bool) × List Int) × Unit) → ((Int × (Bool × Int)) × Unit) → Int → Option (Sum (((Int × (Bool × Int)) × Unit) × Unit) (((Int × (Bool × Int)) × Unit) × Unit))
  | 0, _, _, _ => none
  | n + 1, t_1, t_2, i_4 =>
    cond (decide (i_4 < (Nat.cast (List.length ((t_1).1).2) : Int)))
      (
      cond (decide ((0 : Int) ≤ i_4))
        (
        cond (decide ((Int.toNat i_4) < (List.length ((t_1).1).2)))
          (
          Option.bind (F_lodgeref3_in N (List.getD ((t_1).1).2 (Int.toNat i_4) (0 : Int)) (((t_1).1).1).2) fun y4 =>
          cond (Bool.not (y4).1)
            (
            Option.bind (F_lodgeref_Placed N (102 : Int) i_4) fun y5 =>
            some (Sum.inr (y5, ())))
            (
            (g_lodgeref3_Valid_0 N n t_1 t_2 (wi64 (i_4 + (1 : Int))))))
          (
          none))
        (
        none))
      (
      some (Sum.inl (t_2, ())))

def F_lodgeref3_Valid (N : Nat) (t_0 : ((List Int × Bool) × List Int)) : Option ((Int × (Bool × Int)) × Unit) :=
  Option.bind (F_lodgeref3_ValidDesc N (t_0).1) fun y0 =>
  cond (decide (@Ne Int (y0).1 (0 : Int)))
    (
    Option.bind (F_lodgeref_Bare N (y0).1) fun y1 =>
    some y1)
    (
    Option.bind (F_lodgeref3_Elems N ((t_0).1).1) fun y2 =>
    cond (decide (@Ne Int (Nat.cast (List.length (t_0).2) : Int) (y2).1))
      (
      Option.bind (F_lodgeref_Bare N (101 : Int)) fun y3 =>
      some y3)
      (
      Option.bind (g_lodgeref3_Valid_0 N N (t_0, ()) (((0 : Int), (false, (0 : Int))), ()) (0 : Int)) fun y4 =>
      Sum.elim (fun y5 =>
        Option.bind (F_lodgeref_None N) fun y6 =>
        some y6)
        (fun y7 =>
        some (y7).1) y4))

abbrev c_lodgeref3_Valid (N : Nat) : CallSpec := ⟨35, ps_lodgeref3_Valid, rs_lodgeref3_Valid, fun x => F_lodgeref3_Valid N x.1⟩
abbrev l_lodgeref3_Valid_0 (N : Nat) : LoopSpec := ⟨0, h_lodgeref3_Valid_0, e_lodgeref3_Valid_0, fun x => g_lodgeref3_Valid_0 N N x.1 x.2.1 x.2.2.1⟩

theorem cs_lodgeref3_Valid_ok (S : Nat → Addr) (N : Nat) : CallsOK Go.Proofs.Tryd.prog E S (cs_lodgeref3_Valid N) :=
  .cons (F_lodgeref3_ValidDesc_ok S N) (.cons (F_lodgeref_Bare_ok S N) (.cons (F_lodgeref3_Elems_ok S N) (.cons (F_lodgeref3_in_ok S N) (.cons (F_lodgeref_None_ok S N) (.cons (F_lodgeref_Placed_ok S N) (.nil))))))
noncomputable abbrev b_lodgeref3_Valid_0 : Code := (loopsOf b_lodgeref3_Valid).getD 0 .skip
theorem g_lodgeref3_Valid_0_ok (S : Nat → Addr) (N : Nat) : ∀ n x y, (fun (x : Val (slotsTy h_lodgeref3_Valid_0)) => g_lodgeref3_Valid_0 N n x.1 x.2.1 x.2.2.1) x = some y → LoopCon Go.Proofs.Tryd.prog E S b_lodgeref3_Valid_0 (encSlots h_lodgeref3_Valid_0 x) (encEx e_lodgeref3_Valid_0 y).1 (encEx e_lodgeref3_Valid_0 y).2 :=
  loop_spec E_ok mixed (cs_lodgeref3_Valid_ok S N) (all := loopsOf b_lodgeref3_Valid) (ls := []) (.nil) (i := 0) (by kernel_rfl) (inner_of (by kernel_rfl)) (head := h_lodgeref3_Valid_0) (ex := e_lodgeref3_Valid_0) (fun n (x : Val (slotsTy h_lodgeref3_Valid_0)) => g_lodgeref3_Valid_0 N n x.1 x.2.1 x.2.2.1) (fun _ => rfl) (fun n x => by kernel_rfl)
theorem F_lodgeref3_Valid_ok (S : Nat → Addr) (N : Nat) : ∀ x y, (c_lodgeref3_Valid N).g x = some y → FCon Go.Proofs.Tryd.prog E S 35 ps_lodgeref3_Valid rs_lodgeref3_Valid x y := by
  intro x y h
  exact fun_spec E_ok mixed (cs_lodgeref3_Valid_ok S N) (f := 35) (fi := ⟨b_lodgeref3_Valid, 41, Go.Proofs.Tryd.f35.results.toList⟩) (by kernel_rfl) (ls := [l_lodgeref3_Valid_0 N]) (.cons (by kernel_rfl) (g_lodgeref3_Valid_0_ok S N N) (.nil)) (by kernel_rfl) (ps := ps_lodgeref3_Valid) (rs := rs_lodgeref3_Valid) (Eq.trans (b := F_lodgeref3_Valid N x.1) (by kernel_rfl) h)


end Go.Proofs.YtooocaciaflbdaaDoor.Lg
