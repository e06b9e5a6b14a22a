/-
  The functions of the seat's program, as plain functions.
-/
import Derived.Test.YtooocaciaflbdaaDoorLgMatE
namespace Go.Proofs.YtooocaciaflbdaaDoor.Lg
open Go Go.Eng Go.Proofs
set_option maxRecDepth 100000

/-! lodge/shape.Valid -/

abbrev ps_shape_Valid : List Ty := [(.st (.pair (.sl (.int .i64)) .bool))]
abbrev rs_shape_Valid : List Slot := [.data .err]
abbrev cs_shape_Valid (N : Nat) : List CallSpec := []
noncomputable abbrev b_shape_Valid : Code := (Go.Proofs.Tryd.f42.body).getD .skip

abbrev h_shape_Valid_0 : List Slot := [.dead, .box [.d (.st (.pair (.sl (.int .i64)) .bool))], .dead, .data (.int .i64), .dead, .dead, .dead, .dead, .dead, .dead, .dead, .dead, .dead, .dead, .data (.sl (.int .i64)), .data (.int .i64), .data (.int .i64), .dead, .dead, .dead, .dead, .dead, .dead, .dead, .dead, .dead, .dead, .dead, .dead, .dead, .dead, .dead, .dead, .dead, .dead, .dead, .dead, .dead, .dead, .dead, .dead, .dead]
abbrev e_shape_Valid_0 : List (AX × List Slot) := [(AX.exit 0, [.dead, .box [.d (.st (.pair (.sl (.int .i64)) .bool))], .dead, .data (.int .i64), .dead, .dead, .dead, .dead, .dead, .dead, .dead, .dead, .dead, .dead, .dead, .dead, .dead, .dead, .dead, .dead, .dead, .dead, .dead, .dead, .dead, .dead, .dead, .dead, .dead, .dead, .dead, .dead, .dead, .dead, .dead, .dead, .dead, .dead, .dead, .dead, .dead, .dead]), (AX.ret, [.dead, .dead, .data .err, .dead, .dead, .dead, .dead, .dead, .dead, .dead, .dead, .dead, .dead, .dead, .dead, .dead, .dead, .dead, .dead, .dead, .dead, .dead, .dead, .dead, .dead, .dead, .dead, .dead, .dead, .dead, .dead, .dead, .dead, .dead, .dead, .dead, .dead, .dead, .dead, .dead, .dead, .dead])]
def g_shape_Valid_0 (N : Nat) : Nat → ((List Int × Bool) × Unit) → Int → List Int → Int → Int → Option (Sum (((List Int × Bool) × Unit) × (Int × Unit)) (Er × Unit))
  | 0, _, _, _, _, _ => none
  | n + 1, d_1, n_3, t_14, t_15, t_16 =>
    cond (decide (t_16 < t_15))
      (
      cond (decide ((0 : Int) ≤ t_16))
        (
        cond (decide ((Int.toNat t_16) < (List.length t_14)))
          (
          cond (decide ((List.getD t_14 (Int.toNat t_16) (0 : Int)) < (1 : Int)))
            (
            some (Sum.inr ((Go.Eng.Er.s ErrRange), ())))
            (
            cond (decide ((256 : Int) < (List.getD t_14 (Int.toNat t_16) (0 : Int))))
              (
              some (Sum.inr ((Go.Eng.Er.s ErrRange), ())))
              (
              (g_shape_Valid_0 N n d_1 n_3 t_14 t_15 (wi64 (t_16 + (1 : Int)))))))
          (
          none))
        (
        none))
      (
      some (Sum.inl (d_1, (n_3, ()))))

abbrev h_shape_Valid_1 : List Slot := [.dead, .dead, .dead, .data (.int .i64), .dead, .dead, .dead, .dead, .dead, .dead, .dead, .dead, .dead, .dead, .dead, .dead, .dead, .dead, .dead, .dead, .dead, .dead, .dead, .dead, .dead, .dead, .dead, .dead, .dead, .data (.sl (.int .i64)), .data (.int .i64), .data (.int .i64), .dead, .dead, .dead, .dead, .dead, .dead, .dead, .dead, .dead, .dead]
abbrev e_shape_Valid_1 : List (AX × List Slot) := [(AX.exit 2, [.dead, .dead, .dead, .dead, .dead, .dead, .dead, .dead, .dead, .dead, .dead, .dead, .dead, .dead, .dead, .dead, .dead, .dead, .dead, .dead, .dead, .dead, .dead, .dead, .dead, .dead, .dead, .dead, .dead, .dead, .dead, .dead, .dead, .dead, .dead, .dead, .dead, .dead, .dead, .dead, .dead, .dead]), (AX.ret, [.dead, .dead, .data .err, .dead, .dead, .dead, .dead, .dead, .dead, .dead, .dead, .dead, .dead, .dead, .dead, .dead, .dead, .dead, .dead, .dead, .dead, .dead, .dead, .dead, .dead, .dead, .dead, .dead, .dead, .dead, .dead, .dead, .dead, .dead, .dead, .dead, .dead, .dead, .dead, .dead, .dead, .dead])]
def g_shape_Valid_1 (N : Nat) : Nat → Int → List Int → Int → Int → Option (Sum Unit (Er × Unit))
  | 0, _, _, _, _ => none
  | n + 1, n_3, t_29, t_30, t_31 =>
    cond (decide (t_31 < t_30))
      (
      cond (decide ((0 : Int) ≤ t_31))
        (
        cond (decide ((Int.toNat t_31) < (List.length t_29)))
          (
          cond (decide ((16384 : Int) < (wi64 (n_3 * (List.getD t_29 (Int.toNat t_31) (0 : Int))))))
            (
            some (Sum.inr ((Go.Eng.Er.s ErrMany), ())))
            (
            (g_shape_Valid_1 N n (wi64 (n_3 * (List.getD t_29 (Int.toNat t_31) (0 : Int)))) t_29 t_30 (wi64 (t_31 + (1 : Int))))))
          (
          none))
        (
        none))
      (
      some (Sum.inl ()))

def F_shape_Valid (N : Nat) (d_0 : (List Int × Bool)) : Option (Er × Unit) :=
  cond (decide ((4 : Int) < (Nat.cast (List.length (d_0).1) : Int)))
    (
    some ((Go.Eng.Er.s ErrMany), ()))
    (
    Option.bind (g_shape_Valid_0 N N (d_0, ()) (1 : Int) (d_0).1 (Nat.cast (List.length (d_0).1) : Int) (0 : Int)) fun y0 =>
    Sum.elim (fun y1 =>
      Option.bind (g_shape_Valid_1 N N ((y1).2).1 (((y1).1).1).1 (Nat.cast (List.length (((y1).1).1).1) : Int) (0 : Int)) fun y2 =>
      Sum.elim (fun y3 =>
        some (Go.Eng.Er.nil, ()))
        (fun y4 =>
        some y4) y2)
      (fun y5 =>
      some y5) y0)

abbrev c_shape_Valid (N : Nat) : CallSpec := ⟨42, ps_shape_Valid, rs_shape_Valid, fun x => F_shape_Valid N x.1⟩
abbrev l_shape_Valid_1 (N : Nat) : LoopSpec := ⟨1, h_shape_Valid_1, e_shape_Valid_1, fun x => g_shape_Valid_1 N N x.1 x.2.1 x.2.2.1 x.2.2.2.1⟩
abbrev l_shape_Valid_0 (N : Nat) : LoopSpec := ⟨0, h_shape_Valid_0, e_shape_Valid_0, fun x => g_shape_Valid_0 N N x.1 x.2.1 x.2.2.1 x.2.2.2.1 x.2.2.2.2.1⟩

theorem cs_shape_Valid_ok (S : Nat → Addr) (N : Nat) : CallsOK Go.Proofs.Tryd.prog E S (cs_shape_Valid N) :=
  .nil
noncomputable abbrev b_shape_Valid_1 : Code := (loopsOf b_shape_Valid).getD 1 .skip
theorem g_shape_Valid_1_ok (S : Nat → Addr) (N : Nat) : ∀ n x y, (fun (x : Val (slotsTy h_shape_Valid_1)) => g_shape_Valid_1 N n x.1 x.2.1 x.2.2.1 x.2.2.2.1) x = some y → LoopCon Go.Proofs.Tryd.prog E S b_shape_Valid_1 (encSlots h_shape_Valid_1 x) (encEx e_shape_Valid_1 y).1 (encEx e_shape_Valid_1 y).2 :=
  loop_spec E_ok mixed (cs_shape_Valid_ok S N) (all := loopsOf b_shape_Valid) (ls := []) (.nil) (i := 1) (by kernel_rfl) (inner_of (by kernel_rfl)) (head := h_shape_Valid_1) (ex := e_shape_Valid_1) (fun n (x : Val (slotsTy h_shape_Valid_1)) => g_shape_Valid_1 N n x.1 x.2.1 x.2.2.1 x.2.2.2.1) (fun _ => rfl) (fun n x => by kernel_rfl)
noncomputable abbrev b_shape_Valid_0 : Code := (loopsOf b_shape_Valid).getD 0 .skip
theorem g_shape_Valid_0_ok (S : Nat → Addr) (N : Nat) : ∀ n x y, (fun (x : Val (slotsTy h_shape_Valid_0)) => g_shape_Valid_0 N n x.1 x.2.1 x.2.2.1 x.2.2.2.1 x.2.2.2.2.1) x = some y → LoopCon Go.Proofs.Tryd.prog E S b_shape_Valid_0 (encSlots h_shape_Valid_0 x) (encEx e_shape_Valid_0 y).1 (encEx e_shape_Valid_0 y).2 :=
  loop_spec E_ok mixed (cs_shape_Valid_ok S N) (all := loopsOf b_shape_Valid) (ls := []) (.nil) (i := 0) (by kernel_rfl) (inner_of (by kernel_rfl)) (head := h_shape_Valid_0) (ex := e_shape_Valid_0) (fun n (x : Val (slotsTy h_shape_Valid_0)) => g_shape_Valid_0 N n x.1 x.2.1 x.2.2.1 x.2.2.2.1 x.2.2.2.2.1) (fun _ => rfl) (fun n x => by kernel_rfl)
theorem F_shape_Valid_ok (S : Nat → Addr) (N : Nat) : ∀ x y, (c_shape_Valid N).g x = some y → FCon Go.Proofs.Tryd.prog E S 42 ps_shape_Valid rs_shape_Valid x y := by
  intro x y h
  exact fun_spec E_ok mixed (cs_shape_Valid_ok S N) (f := 42) (fi := ⟨b_shape_Valid, 42, Go.Proofs.Tryd.f42.results.toList⟩) (by kernel_rfl) (ls := [l_shape_Valid_1 N, l_shape_Valid_0 N]) (.cons (by kernel_rfl) (g_shape_Valid_1_ok S N N) (.cons (by kernel_rfl) (g_shape_Valid_0_ok S N N) (.nil))) (by kernel_rfl) (ps := ps_shape_Valid) (rs := rs_shape_Valid) (Eq.trans (b := F_shape_Valid N x.1) (by kernel_rfl) h)

/-! lodge/shape.fair -/

abbrev ps_shape_fair : List Ty := [(.sl (.int .i64))]
abbrev rs_shape_fair : List Slot := [.data .bool]
abbrev cs_shape_fair (N : Nat) : List CallSpec := [c_shape_Valid N]
noncomputable abbrev b_shape_fair : Code := (Go.Proofs.Tryd.f51.body).getD .skip

def F_shape_fair (N : Nat) (shape_0 : List Int) : Option (Bool × Unit) :=
  Option.bind (F_shape_Valid N (shape_0, false)) fun y0 =>
  some ((Go.Eng.Er.isNil (y0).1), ())

abbrev c_shape_fair (N : Nat) : CallSpec := ⟨51, ps_shape_fair, rs_shape_fair, fun x => F_shape_fair N x.1⟩

theorem cs_shape_fair_ok (S : Nat → Addr) (N : Nat) : CallsOK Go.Proofs.Tryd.prog E S (cs_shape_fair N) :=
  .cons (F_shape_Valid_ok S N) (.nil)
theorem F_shape_fair_ok (S : Nat → Addr) (N : Nat) : ∀ x y, (c_shape_fair N).g x = some y → FCon Go.Proofs.Tryd.prog E S 51 ps_shape_fair rs_shape_fair x y := by
  intro x y h
  exact fun_spec E_ok mixed (cs_shape_fair_ok S N) (f := 51) (fi := ⟨b_shape_fair, 7, Go.Proofs.Tryd.f51.results.toList⟩) (by kernel_rfl) (ls := []) (.nil) (by kernel_rfl) (ps := ps_shape_fair) (rs := rs_shape_fair) (Eq.trans (b := F_shape_fair N x.1) (by kernel_rfl) h)

/-! lodge/shape.Elems -/

abbrev ps_shape_Elems : List Ty := [(.sl (.int .i64))]
abbrev rs_shape_Elems : List Slot := [.data (.int .i64)]
abbrev cs_shape_Elems (N : Nat) : List CallSpec := [c_shape_fair N]
noncomputable abbrev b_shape_Elems : Code := (Go.Proofs.Tryd.f27.body).getD .skip

abbrev h_shape_Elems_0 : List Slot := [.dead, .dead, .dead, .data (.int .i64), .dead, .dead, .dead, .dead, .dead, .data (.sl (.int .i64)), .data (.int .i64), .data (.int .i64), .dead, .dead, .dead, .dead, .dead, .dead, .dead, .dead]
abbrev e_shape_Elems_0 : List (AX × List Slot) := [(AX.exit 0, [.dead, .dead, .dead, .data (.int .i64), .dead, .dead, .dead, .dead, .dead, .dead, .dead, .dead, .dead, .dead, .dead, .dead, .dead, .dead, .dead, .dead])]
def g_shape_Elems_0 (N : Nat) : Nat → Int → List Int → Int → Int → Option (Int × Unit)
  | 0, _, _, _, _ => none
  | n + 1, n_3, t_9, t_10, t_11 =>
    cond (decide (t_11 < t_10))
      (
      cond (decide ((0 : Int) ≤ t_11))
        (
        cond (decide ((Int.toNat t_11) < (List.length t_9)))
          (
          (g_shape_Elems_0 N n (wi64 (n_3 * (List.getD t_9 (Int.toNat t_11) (0 : Int)))) t_9 t_10 (wi64 (t_11 + (1 : Int)))))
          (
          none))
        (
        none))
      (
      some (n_3, ()))

def F_shape_Elems (N : Nat) (shape_0 : List Int) : Option (Int × Unit) :=
  Option.bind (F_shape_fair N shape_0) fun y0 =>
  cond (Bool.not (y0).1)
    (
    some ((0 : Int), ()))
    (
    Option.bind (g_shape_Elems_0 N N (1 : Int) shape_0 (Nat.cast (List.length shape_0) : Int) (0 : Int)) fun y1 =>
    some y1)

abbrev c_shape_Elems (N : Nat) : CallSpec := ⟨27, ps_shape_Elems, rs_shape_Elems, fun x => F_shape_Elems N x.1⟩
abbrev l_shape_Elems_0 (N : Nat) : LoopSpec := ⟨0, h_shape_Elems_0, e_shape_Elems_0, fun x => g_shape_Elems_0 N N x.1 x.2.1 x.2.2.1 x.2.2.2.1⟩

theorem cs_shape_Elems_ok (S : Nat → Addr) (N : Nat) : CallsOK Go.Proofs.Tryd.prog E S (cs_shape_Elems N) :=
  .cons (F_shape_fair_ok S N) (.nil)
noncomputable abbrev b_shape_Elems_0 : Code := (loopsOf b_shape_Elems).getD 0 .skip
theorem g_shape_Elems_0_ok (S : Nat → Addr) (N : Nat) : ∀ n x y, (fun (x : Val (slotsTy h_shape_Elems_0)) => g_shape_Elems_0 N n x.1 x.2.1 x.2.2.1 x.2.2.2.1) x = some y → LoopCon Go.Proofs.Tryd.prog E S b_shape_Elems_0 (encSlots h_shape_Elems_0 x) (encEx e_shape_Elems_0 y).1 (encEx e_shape_Elems_0 y).2 :=
  loop_spec E_ok mixed (cs_shape_Elems_ok S N) (all := loopsOf b_shape_Elems) (ls := []) (.nil) (i := 0) (by kernel_rfl) (inner_of (by kernel_rfl)) (head := h_shape_Elems_0) (ex := e_shape_Elems_0) (fun n (x : Val (slotsTy h_shape_Elems_0)) => g_shape_Elems_0 N n x.1 x.2.1 x.2.2.1 x.2.2.2.1) (fun _ => rfl) (fun n x => by kernel_rfl)
theorem F_shape_Elems_ok (S : Nat → Addr) (N : Nat) : ∀ x y, (c_shape_Elems N).g x = some y → FCon Go.Proofs.Tryd.prog E S 27 ps_shape_Elems rs_shape_Elems x y := by
  intro x y h
  exact fun_spec E_ok mixed (cs_shape_Elems_ok S N) (f := 27) (fi := ⟨b_shape_Elems, 20, Go.Proofs.Tryd.f27.results.toList⟩) (by kernel_rfl) (ls := [l_shape_Elems_0 N]) (.cons (by kernel_rfl) (g_shape_Elems_0_ok S N N) (.nil)) (by kernel_rfl) (ps := ps_shape_Elems) (rs := rs_shape_Elems) (Eq.trans (b := F_shape_Elems N x.1) (by kernel_rfl) h)

/-! lodge/tens.fits -/

abbrev ps_tens_fits : List Ty := [(.int .i64), .bool]
abbrev rs_tens_fits : List Slot := [.data .bool]
abbrev cs_tens_fits (N : Nat) : List CallSpec := []
noncomputable abbrev b_tens_fits : Code := (Go.Proofs.Tryd.f52.body).getD .skip

def F_tens_fits (N : Nat) (n_0 : Int) (wide_1 : Bool) : Option (Bool × Unit) :=
  cond wide_1
    (
    cond (decide ((-(2147483648 : Int)) ≤ n_0))
      (
      some ((decide (n_0 ≤ (2147483647 : Int))), ()))
      (
      some (false, ())))
    (
    cond (decide ((-(128 : Int)) ≤ n_0))
      (
      some ((decide (n_0 ≤ (127 : Int))), ()))
      (
      some (false, ())))

abbrev c_tens_fits (N : Nat) : CallSpec := ⟨52, ps_tens_fits, rs_tens_fits, fun x => F_tens_fits N x.1 x.2.1⟩

theorem cs_tens_fits_ok (S : Nat → Addr) (N : Nat) : CallsOK Go.Proofs.Tryd.prog E S (cs_tens_fits N) :=
  .nil
theorem F_tens_fits_ok (S : Nat → Addr) (N : Nat) : ∀ x y, (c_tens_fits N).g x = some y → FCon Go.Proofs.Tryd.prog E S 52 ps_tens_fits rs_tens_fits x y := by
  intro x y h
  exact fun_spec E_ok mixed (cs_tens_fits_ok S N) (f := 52) (fi := ⟨b_tens_fits, 18, Go.Proofs.Tryd.f52.results.toList⟩) (by kernel_rfl) (ls := []) (.nil) (by kernel_rfl) (ps := ps_tens_fits) (rs := rs_tens_fits) (Eq.trans (b := F_tens_fits N x.1 x.2.1) (by kernel_rfl) h)

/-! lodge/tens.Valid -/

abbrev ps_tens_Valid : List Ty := [(.st (.pair (.st (.pair (.sl (.int .i64)) .bool)) (.sl (.int .i64))))]
abbrev rs_tens_Valid : List Slot := [.data .err]
abbrev cs_tens_Valid (N : Nat) : List CallSpec := [c_shape_Valid N, c_shape_Elems N, c_tens_fits N]
noncomputable abbrev b_tens_Valid : Code := (Go.Proofs.Tryd.f31.body).getD .skip

abbrev h_tens_Valid_0 : List Slot := [.dead, .box [.d (.st (.pair (.st (.pair (.sl (.int .i64)) .bool)) (.sl (.int .i64))))], .dead, .dead, .dead, .dead, .dead, .dead, .dead, .dead, .dead, .dead, .dead, .dead, .dead, .dead, .dead, .dead, .dead, .dead, .dead, .dead, .data (.sl (.int .i64)), .data (.int .i64), .data (.int .i64), .dead, .dead, .dead, .dead, .dead, .dead, .dead, .dead, .dead, .dead, .dead, .dead, .dead, .dead, .dead, .dead]
abbrev e_tens_Valid_0 : List (AX × List Slot) := [(AX.exit 0, [.dead, .dead, .dead, .dead, .dead, .dead, .dead, .dead, .dead, .dead, .dead, .dead, .dead, .dead, .dead, .dead, .dead, .dead, .dead, .dead, .dead, .dead, .dead, .dead, .dead, .dead, .dead, .dead, .dead, .dead, .dead, .dead, .dead, .dead, .dead, .dead, .dead, .dead, .dead, .dead, .dead]), (AX.ret, [.dead, .dead, .data .err, .dead, .dead, .dead, .dead, .dead, .dead, .dead, .dead, .dead, .dead, .dead, .dead, .dead, .dead, .dead, .dead, .dead, .dead, .dead, .dead, .dead, .dead, .dead, .dead, .dead, .dead, .dead, .dead, .dead, .dead, .dead, .dead, .dead, .dead, .dead, .dead, .dead, .dead])]
def g_tens_Valid_0 (N : Nat) : Nat → (((List Int × Bool) × List Int) × Unit) → List Int → Int → Int → Option (Sum Unit (Er × Unit))
  | 0, _, _, _, _ => none
  | n + 1, t_1, t_22, t_23, t_24 =>
    cond (decide (t_24 < t_23))
      (
      cond (decide ((0 : Int) ≤ t_24))
        (
        cond (decide ((Int.toNat t_24) < (List.length t_22)))
          (
          Option.bind (F_tens_fits N (List.getD t_22 (Int.toNat t_24) (0 : Int)) (((t_1).1).1).2) fun y3 =>
          cond (Bool.not (y3).1)
            (
            some (Sum.inr ((Go.Eng.Er.at t_24 ErrRange), ())))
            (
            (g_tens_Valid_0 N n t_1 t_22 t_23 (wi64 (t_24 + (1 : Int))))))
          (
          none))
        (
        none))
      (
      some (Sum.inl ()))

def F_tens_Valid (N : Nat) (t_0 : ((List Int × Bool) × List Int)) : Option (Er × Unit) :=
  Option.bind (F_shape_Valid N (t_0).1) fun y0 =>
  cond (Bool.not (Go.Eng.Er.isNil (y0).1))
    (
    some y0)
    (
    Option.bind (F_shape_Elems N ((t_0).1).1) fun y1 =>
    cond (decide (@Ne Int (Nat.cast (List.length (t_0).2) : Int) (y1).1))
      (
      some ((Go.Eng.Er.s ErrShape), ()))
      (
      Option.bind (g_tens_Valid_0 N N (t_0, ()) (t_0).2 (Nat.cast (List.length (t_0).2) : Int) (0 : Int)) fun y2 =>
      Sum.elim (fun y3 =>
        some (Go.Eng.Er.nil, ()))
        (fun y4 =>
        some y4) y2))

abbrev c_tens_Valid (N : Nat) : CallSpec := ⟨31, ps_tens_Valid, rs_tens_Valid, fun x => F_tens_Valid N x.1⟩
abbrev l_tens_Valid_0 (N : Nat) : LoopSpec := ⟨0, h_tens_Valid_0, e_tens_Valid_0, fun x => g_tens_Valid_0 N N x.1 x.2.1 x.2.2.1 x.2.2.2.1⟩

theorem cs_tens_Valid_ok (S : Nat → Addr) (N : Nat) : CallsOK Go.Proofs.Tryd.prog E S (cs_tens_Valid N) :=
  .cons (F_shape_Valid_ok S N) (.cons (F_shape_Elems_ok S N) (.cons (F_tens_fits_ok S N) (.nil)))
noncomputable abbrev b_tens_Valid_0 : Code := (loopsOf b_tens_Valid).getD 0 .skip
theorem g_tens_Valid_0_ok (S : Nat → Addr) (N : Nat) : ∀ n x y, (fun (x : Val (slotsTy h_tens_Valid_0)) => g_tens_Valid_0 N n x.1 x.2.1 x.2.2.1 x.2.2.2.1) x = some y → LoopCon Go.Proofs.Tryd.prog E S b_tens_Valid_0 (encSlots h_tens_Valid_0 x) (encEx e_tens_Valid_0 y).1 (encEx e_tens_Valid_0 y).2 :=
  loop_spec E_ok mixed (cs_tens_Valid_ok S N) (all := loopsOf b_tens_Valid) (ls := []) (.nil) (i := 0) (by kernel_rfl) (inner_of (by kernel_rfl)) (head := h_tens_Valid_0) (ex := e_tens_Valid_0) (fun n (x : Val (slotsTy h_tens_Valid_0)) => g_tens_Valid_0 N n x.1 x.2.1 x.2.2.1 x.2.2.2.1) (fun _ => rfl) (fun n x => by kernel_rfl)
theorem F_tens_Valid_ok (S : Nat → Addr) (N : Nat) : ∀ x y, (c_tens_Valid N).g x = some y → FCon Go.Proofs.Tryd.prog E S 31 ps_tens_Valid rs_tens_Valid x y := by
  intro x y h
  exact fun_spec E_ok mixed (cs_tens_Valid_ok S N) (f := 31) (fi := ⟨b_tens_Valid, 41, Go.Proofs.Tryd.f31.results.toList⟩) (by kernel_rfl) (ls := [l_tens_Valid_0 N]) (.cons (by kernel_rfl) (g_tens_Valid_0_ok S N N) (.nil)) (by kernel_rfl) (ps := ps_tens_Valid) (rs := rs_tens_Valid) (Eq.trans (b := F_tens_Valid N x.1) (by kernel_rfl) h)

/-! lodge/tens.Narrow -/

abbrev ps_tens_Narrow : List Ty := [(.int .i64)]
abbrev rs_tens_Narrow : List Slot := [.data (.int .i64)]
abbrev cs_tens_Narrow (N : Nat) : List CallSpec := []
noncomputable abbrev b_tens_Narrow : Code := (Go.Proofs.Tryd.f70.body).getD .skip

def F_tens_Narrow (N : Nat) (n_0 : Int) : Option (Int × Unit) :=
  some ((Go.Eng.imax (-(128 : Int)) (Go.Eng.imin n_0 (127 : Int))), ())

abbrev c_tens_Narrow (N : Nat) : CallSpec := ⟨70, ps_tens_Narrow, rs_tens_Narrow, fun x => F_tens_Narrow N x.1⟩

theorem cs_tens_Narrow_ok (S : Nat → Addr) (N : Nat) : CallsOK Go.Proofs.Tryd.prog E S (cs_tens_Narrow N) :=
  .nil
theorem F_tens_Narrow_ok (S : Nat → Addr) (N : Nat) : ∀ x y, (c_tens_Narrow N).g x = some y → FCon Go.Proofs.Tryd.prog E S 70 ps_tens_Narrow rs_tens_Narrow x y := by
  intro x y h
  exact fun_spec E_ok mixed (cs_tens_Narrow_ok S N) (f := 70) (fi := ⟨b_tens_Narrow, 6, Go.Proofs.Tryd.f70.results.toList⟩) (by kernel_rfl) (ls := []) (.nil) (by kernel_rfl) (ps := ps_tens_Narrow) (rs := rs_tens_Narrow) (Eq.trans (b := F_tens_Narrow N x.1) (by kernel_rfl) h)

/-! lodge/mat.narrow -/

abbrev ps_mat_narrow : List Ty := [(.int .i64)]
abbrev rs_mat_narrow : List Slot := [.data .bool]
abbrev cs_mat_narrow (N : Nat) : List CallSpec := [c_tens_Narrow N]
noncomputable abbrev b_mat_narrow : Code := (Go.Proofs.Tryd.f43.body).getD .skip

def F_mat_narrow (N : Nat) (n_0 : Int) : Option (Bool × Unit) :=
  Option.bind (F_tens_Narrow N n_0) fun y0 =>
  some ((decide ((y0).1 = n_0)), ())

abbrev c_mat_narrow (N : Nat) : CallSpec := ⟨43, ps_mat_narrow, rs_mat_narrow, fun x => F_mat_narrow N x.1⟩

theorem cs_mat_narrow_ok (S : Nat → Addr) (N : Nat) : CallsOK Go.Proofs.Tryd.prog E S (cs_mat_narrow N) :=
  .cons (F_tens_Narrow_ok S N) (.nil)
theorem F_mat_narrow_ok (S : Nat → Addr) (N : Nat) : ∀ x y, (c_mat_narrow N).g x = some y → FCon Go.Proofs.Tryd.prog E S 43 ps_mat_narrow rs_mat_narrow x y := by
  intro x y h
  exact fun_spec E_ok mixed (cs_mat_narrow_ok S N) (f := 43) (fi := ⟨b_mat_narrow, 7, Go.Proofs.Tryd.f43.results.toList⟩) (by kernel_rfl) (ls := []) (.nil) (by kernel_rfl) (ps := ps_mat_narrow) (rs := rs_mat_narrow) (Eq.trans (b := F_mat_narrow N x.1) (by kernel_rfl) h)

/-! lodge/mat.Result -/

abbrev ps_mat_Result : List Ty := [(.int .i64), (.int .i64), (.st (.pair (.sl (.int .i64)) .bool)), (.st (.pair (.sl (.int .i64)) .bool))]
abbrev rs_mat_Result : List Slot := [.data (.st (.pair (.sl (.int .i64)) .bool)), .data .err]
abbrev cs_mat_Result (N : Nat) : List CallSpec := [c_shape_Valid N, c_mat_narrow N]
noncomputable abbrev b_mat_Result : Code := (Go.Proofs.Tryd.f18.body).getD .skip

abbrev h_mat_Result_0 : List Slot := [.data (.int .i64), .data (.int .i64), .dead, .dead, .dead, .dead, .box [.d (.st (.pair (.sl (.int .i64)) .bool))], .box [.d (.st (.pair (.sl (.int .i64)) .bool))], .box [.sl (.int .i64), .d .bool], .dead, .dead, .dead, .dead, .dead, .dead, .dead, .dead, .sl (.st (.pair (.sl (.int .i64)) .bool)), .data (.int .i64), .data (.int .i64), .dead, .dead, .dead, .dead, .dead, .dead, .dead, .dead, .dead, .dead, .dead, .dead, .dead, .dead, .dead, .dead, .dead, .dead, .dead, .dead, .dead, .dead, .dead, .dead, .dead, .dead, .dead, .dead, .dead, .dead, .dead, .dead, .dead, .dead, .dead, .dead, .dead, .dead, .dead, .dead, .dead, .dead, .dead, .dead, .dead, .dead, .dead, .dead, .dead, .dead, .dead, .dead, .dead, .dead, .dead, .dead, .dead, .dead, .dead, .dead, .dead, .dead, .dead, .dead, .dead, .dead, .dead, .dead]
abbrev e_mat_Result_0 : List (AX × List Slot) := [(AX.exit 0, [.data (.int .i64), .data (.int .i64), .dead, .dead, .dead, .dead, .box [.d (.st (.pair (.sl (.int .i64)) .bool))], .box [.d (.st (.pair (.sl (.int .i64)) .bool))], .box [.sl (.int .i64), .d .bool], .dead, .dead, .dead, .dead, .dead, .dead, .dead, .dead, .dead, .dead, .dead, .dead, .dead, .dead, .dead, .dead, .dead, .dead, .dead, .dead, .dead, .dead, .dead, .dead, .dead, .dead, .dead, .dead, .dead, .dead, .dead, .dead, .dead, .dead, .dead, .dead, .dead, .dead, .dead, .dead, .dead, .dead, .dead, .dead, .dead, .dead, .dead, .dead, .dead, .dead, .dead, .dead, .dead, .dead, .dead, .dead, .dead, .dead, .dead, .dead, .dead, .dead, .dead, .dead, .dead, .dead, .dead, .dead, .dead, .dead, .dead, .dead, .dead, .dead, .dead, .dead, .dead, .dead, .dead]), (AX.ret, [.dead, .dead, .dead, .dead, .dead, .dead, .dead, .dead, .box [.sl (.int .i64), .d .bool], .data .err, .dead, .dead, .dead, .dead, .dead, .dead, .dead, .dead, .dead, .dead, .dead, .dead, .dead, .dead, .dead, .dead, .dead, .dead, .dead, .dead, .dead, .dead, .dead, .dead, .dead, .dead, .dead, .dead, .dead, .dead, .dead, .dead, .dead, .dead, .dead, .dead, .dead, .dead, .dead, .dead, .dead, .dead, .dead, .dead, .dead, .dead, .dead, .dead, .dead, .dead, .dead, .dead, .dead, .dead, .dead, .dead, .dead, .dead, .dead, .dead, .dead, .dead, .dead, .dead, .dead, .dead, .dead, .dead, .dead, .dead, .dead, .dead, .dead, .dead, .dead, .dead, .dead, .dead])]
def g_mat_Result_0 (N : Nat) : Nat → Int → Int → ((List Int × Bool) × Unit) → ((List Int × Bool) × Unit) → (List Int × (Bool × Unit)) → List ((List Int × Bool)) → Int → Int → Option (Sum (Int × (Int × (((List Int × Bool) × Unit) × (((List Int × Bool) × Unit) × ((List Int × (Bool × Unit)) × Unit))))) ((List Int × (Bool × Unit)) × (Er × Unit)))
  | 0, _, _, _, _, _, _, _, _ => none
  | n + 1, za_0, zb_1, a_6, b_7, t_8, t_17, t_18, t_19 =>
    cond (decide (t_19 < t_18))
      (
      cond (decide ((0 : Int) ≤ t_19))
        (
        cond (decide ((Int.toNat t_19) < (List.length t_17)))
          (
          cond (decide (((0 : Nat) + (Int.toNat t_19)) < (List.length t_17)))
            (
            Option.bind (F_shape_Valid N (List.getD t_17 ((0 : Nat) + (Int.toNat t_19)) (([] : List Int), false))) fun y1 =>
            cond (Bool.not (Go.Eng.Er.isNil (y1).1))
              (
              some (Sum.inr ((([] : List Int), (false, ())), y1)))
              (
              cond (decide ((List.length (t_8).1) = (List.length (t_8).1)))
                (
                cond (decide ((List.length t_17) = (List.length t_17)))
                  (
                  (g_mat_Result_0 N n za_0 zb_1 a_6 b_7 t_8 t_17 t_18 (wi64 (t_19 + (1 : Int)))))
                  (
                  none))
                (
                none)))
            (
            none))
          (
          none))
        (
        none))
      (
      cond (decide ((List.length (t_8).1) = (List.length (t_8).1)))
        (
        some (Sum.inl (za_0, (zb_1, (a_6, (b_7, (t_8, ())))))))
        (
        none))

def F_mat_Result (N : Nat) (za_0 : Int) (zb_1 : Int) (a_2 : (List Int × Bool)) (b_3 : (List Int × Bool)) : Option ((List Int × Bool) × (Er × Unit)) :=
  Option.bind (g_mat_Result_0 N N za_0 zb_1 (a_2, ()) (b_3, ()) (([] : List Int), (false, ())) (a_2 :: (b_3 :: ([] : List ((List Int) × Bool)))) (Nat.cast (2 : Nat) : Int) (0 : Int)) fun y0 =>
  Sum.elim (fun y1 =>
    cond (decide (@Ne Int (Nat.cast (List.length (((((y1).2).2).1).1).1) : Int) (2 : Int)))
      (
      some ((([] : List Int), false), ((Go.Eng.Er.s ErrShape), ())))
      (
      cond (decide (@Ne Int (Nat.cast (List.length ((((((y1).2).2).2).1).1).1) : Int) (2 : Int)))
        (
        some ((([] : List Int), false), ((Go.Eng.Er.s ErrShape), ())))
        (
        cond (decide (1 < (List.length (((((y1).2).2).1).1).1)))
          (
          cond (decide (0 < (List.length ((((((y1).2).2).2).1).1).1)))
            (
            cond (decide (@Ne Int (List.getD (((((y1).2).2).1).1).1 1 (0 : Int)) (List.getD ((((((y1).2).2).2).1).1).1 0 (0 : Int))))
              (
              some ((([] : List Int), false), ((Go.Eng.Er.s ErrShape), ())))
              (
              cond (((((y1).2).2).1).1).2
                (
                some ((([] : List Int), false), ((Go.Eng.Er.s ErrShape), ())))
                (
                cond ((((((y1).2).2).2).1).1).2
                  (
                  some ((([] : List Int), false), ((Go.Eng.Er.s ErrShape), ())))
                  (
                  Option.bind (F_mat_narrow N (y1).1) fun y2 =>
                  cond (Bool.not (y2).1)
                    (
                    some ((([] : List Int), false), ((Go.Eng.Er.s ErrRange), ())))
                    (
                    Option.bind (F_mat_narrow N ((y1).2).1) fun y3 =>
                    cond (Bool.not (y3).1)
                      (
                      some ((([] : List Int), false), ((Go.Eng.Er.s ErrRange), ())))
                      (
                      cond (decide (0 < (List.length (((((y1).2).2).1).1).1)))
                        (
                        cond (decide (1 < (List.length ((((((y1).2).2).2).1).1).1)))
                          (
                          Option.bind (F_shape_Valid N (((List.getD (((((y1).2).2).1).1).1 0 (0 : Int)) :: ((List.getD ((((((y1).2).2).2).1).1).1 1 (0 : Int)) :: ([] : List Int))), true)) fun y4 =>
                          cond (Bool.not (Go.Eng.Er.isNil (y4).1))
                            (
                            some ((([] : List Int), false), y4))
                            (
                            some ((((List.getD (((((y1).2).2).1).1).1 0 (0 : Int)) :: ((List.getD ((((((y1).2).2).2).1).1).1 1 (0 : Int)) :: ([] : List Int))), true), (Go.Eng.Er.nil, ()))))
                          (
                          none))
                        (
                        none)))))))
            (
            none))
          (
          none))))
    (fun y5 =>
    cond (decide (((0 : Nat) + (List.length ((y5).1).1)) ≤ (List.length ((y5).1).1)))
      (
      some (((List.take (List.length ((y5).1).1) ((y5).1).1), (((y5).1).2).1), (y5).2))
      (
      none)) y0

abbrev c_mat_Result (N : Nat) : CallSpec := ⟨18, ps_mat_Result, rs_mat_Result, fun x => F_mat_Result N x.1 x.2.1 x.2.2.1 x.2.2.2.1⟩
abbrev l_mat_Result_0 (N : Nat) : LoopSpec := ⟨0, h_mat_Result_0, e_mat_Result_0, fun x => g_mat_Result_0 N N x.1 x.2.1 x.2.2.1 x.2.2.2.1 x.2.2.2.2.1 x.2.2.2.2.2.1 x.2.2.2.2.2.2.1 x.2.2.2.2.2.2.2.1⟩

theorem cs_mat_Result_ok (S : Nat → Addr) (N : Nat) : CallsOK Go.Proofs.Tryd.prog E S (cs_mat_Result N) :=
  .cons (F_shape_Valid_ok S N) (.cons (F_mat_narrow_ok S N) (.nil))
noncomputable abbrev b_mat_Result_0 : Code := (loopsOf b_mat_Result).getD 0 .skip
theorem g_mat_Result_0_ok (S : Nat → Addr) (N : Nat) : ∀ n x y, (fun (x : Val (slotsTy h_mat_Result_0)) => g_mat_Result_0 N n x.1 x.2.1 x.2.2.1 x.2.2.2.1 x.2.2.2.2.1 x.2.2.2.2.2.1 x.2.2.2.2.2.2.1 x.2.2.2.2.2.2.2.1) x = some y → LoopCon Go.Proofs.Tryd.prog E S b_mat_Result_0 (encSlots h_mat_Result_0 x) (encEx e_mat_Result_0 y).1 (encEx e_mat_Result_0 y).2 :=
  loop_spec E_ok mixed (cs_mat_Result_ok S N) (all := loopsOf b_mat_Result) (ls := []) (.nil) (i := 0) (by kernel_rfl) (inner_of (by kernel_rfl)) (head := h_mat_Result_0) (ex := e_mat_Result_0) (fun n (x : Val (slotsTy h_mat_Result_0)) => g_mat_Result_0 N n x.1 x.2.1 x.2.2.1 x.2.2.2.1 x.2.2.2.2.1 x.2.2.2.2.2.1 x.2.2.2.2.2.2.1 x.2.2.2.2.2.2.2.1) (fun _ => rfl) (fun n x => by kernel_rfl)
theorem F_mat_Result_ok (S : Nat → Addr) (N : Nat) : ∀ x y, (c_mat_Result N).g x = some y → FCon Go.Proofs.Tryd.prog E S 18 ps_mat_Result rs_mat_Result x y := by
  intro x y h
  exact fun_spec E_ok mixed (cs_mat_Result_ok S N) (f := 18) (fi := ⟨b_mat_Result, 88, Go.Proofs.Tryd.f18.results.toList⟩) (by kernel_rfl) (ls := [l_mat_Result_0 N]) (.cons (by kernel_rfl) (g_mat_Result_0_ok S N N) (.nil)) (by kernel_rfl) (ps := ps_mat_Result) (rs := rs_mat_Result) (Eq.trans (b := F_mat_Result N x.1 x.2.1 x.2.2.1 x.2.2.2.1) (by kernel_rfl) h)

/-! lodge/mat.result -/

abbrev ps_mat_result : List Ty := [(.st (.pair (.st (.pair (.sl (.int .i64)) .bool)) (.sl (.int .i64)))), (.st (.pair (.st (.pair (.sl (.int .i64)) .bool)) (.sl (.int .i64)))), (.int .i64), (.int .i64)]
abbrev rs_mat_result : List Slot := [.data (.st (.pair (.sl (.int .i64)) .bool)), .data .err]
abbrev cs_mat_result (N : Nat) : List CallSpec := [c_tens_Valid N, c_mat_Result N]
noncomputable abbrev b_mat_result : Code := (Go.Proofs.Tryd.f25.body).getD .skip

abbrev h_mat_result_0 : List Slot := [.dead, .dead, .data (.int .i64), .data (.int .i64), .box [.d (.st (.pair (.st (.pair (.sl (.int .i64)) .bool)) (.sl (.int .i64))))], .box [.d (.st (.pair (.st (.pair (.sl (.int .i64)) .bool)) (.sl (.int .i64))))], .dead, .dead, .box [.sl (.int .i64), .d .bool], .dead, .dead, .dead, .dead, .dead, .dead, .sl (.st (.pair (.st (.pair (.sl (.int .i64)) .bool)) (.sl (.int .i64)))), .data (.int .i64), .data (.int .i64), .dead, .dead, .dead, .dead, .dead, .dead, .dead, .dead, .dead, .dead, .dead, .dead, .dead, .dead, .dead, .dead, .dead, .dead, .dead]
abbrev e_mat_result_0 : List (AX × List Slot) := [(AX.exit 0, [.dead, .dead, .data (.int .i64), .data (.int .i64), .box [.d (.st (.pair (.st (.pair (.sl (.int .i64)) .bool)) (.sl (.int .i64))))], .box [.d (.st (.pair (.st (.pair (.sl (.int .i64)) .bool)) (.sl (.int .i64))))], .dead, .dead, .box [.sl (.int .i64), .d .bool], .dead, .dead, .dead, .dead, .dead, .dead, .dead, .dead, .dead, .dead, .dead, .dead, .dead, .dead, .dead, .dead, .dead, .dead, .dead, .dead, .dead, .dead, .dead, .dead, .dead, .dead, .dead, .dead]), (AX.ret, [.dead, .dead, .dead, .dead, .dead, .dead, .dead, .dead, .box [.sl (.int .i64), .d .bool], .data .err, .dead, .dead, .dead, .dead, .dead, .dead, .dead, .dead, .dead, .dead, .dead, .dead, .dead, .dead, .dead, .dead, .dead, .dead, .dead, .dead, .dead, .dead, .dead, .dead, .dead, .dead, .dead])]
def g_mat_result_0 (N : Nat) : Nat → Int → Int → (((List Int × Bool) × List Int) × Unit) → (((List Int × Bool) × List Int) × Unit) → (List Int × (Bool × Unit)) → List (((List Int × Bool) × List Int)) → Int → Int → Option (Sum (Int × (Int × ((((List Int × Bool) × List Int) × Unit) × ((((List Int × Bool) × List Int) × Unit) × ((List Int × (Bool × Unit)) × Unit))))) ((List Int × (Bool × Unit)) × (Er × Unit)))
  | 0, _, _, _, _, _, _, _, _ => none
  | n + 1, za_2, zb_3, a_4, b_5, t_8, t_15, t_16, t_17 =>
    cond (decide (t_17 < t_16))
      (
      cond (decide ((0 : Int) ≤ t_17))
        (
        cond (decide ((Int.toNat t_17) < (List.length t_15)))
          (
          cond (decide (((0 : Nat) + (Int.toNat t_17)) < (List.length t_15)))
            (
            Option.bind (F_tens_Valid N (List.getD t_15 ((0 : Nat) + (Int.toNat t_17)) ((([] : List Int), false), ([] : List Int)))) fun y1 =>
            cond (Bool.not (Go.Eng.Er.isNil (y1).1))
              (
              some (Sum.inr ((([] : List Int), (false, ())), y1)))
              (
              cond (decide ((List.length (t_8).1) = (List.length (t_8).1)))
                (
                cond (decide ((List.length t_15) = (List.length t_15)))
                  (
                  (g_mat_result_0 N n za_2 zb_3 a_4 b_5 t_8 t_15 t_16 (wi64 (t_17 + (1 : Int)))))
                  (
                  none))
                (
                none)))
            (
            none))
          (
          none))
        (
        none))
      (
      cond (decide ((List.length (t_8).1) = (List.length (t_8).1)))
        (
        some (Sum.inl (za_2, (zb_3, (a_4, (b_5, (t_8, ())))))))
        (
        none))

def F_mat_result (N : Nat) (a_0 : ((List Int × Bool) × List Int)) (b_1 : ((List Int × Bool) × List Int)) (za_2 : Int) (zb_3 : Int) : Option ((List Int × Bool) × (Er × Unit)) :=
  Option.bind (g_mat_result_0 N N za_2 zb_3 (a_0, ()) (b_1, ()) (([] : List Int), (false, ())) (a_0 :: (b_1 :: ([] : List (((List Int) × Bool) × (List Int))))) (Nat.cast (2 : Nat) : Int) (0 : Int)) fun y0 =>
  Sum.elim (fun y1 =>
    Option.bind (F_mat_Result N (y1).1 ((y1).2).1 (((((y1).2).2).1).1).1 ((((((y1).2).2).2).1).1).1) fun y2 =>
    some y2)
    (fun y3 =>
    cond (decide (((0 : Nat) + (List.length ((y3).1).1)) ≤ (List.length ((y3).1).1)))
      (
      some (((List.take (List.length ((y3).1).1) ((y3).1).1), (((y3).1).2).1), (y3).2))
      (
      none)) y0

abbrev c_mat_result (N : Nat) : CallSpec := ⟨25, ps_mat_result, rs_mat_result, fun x => F_mat_result N x.1 x.2.1 x.2.2.1 x.2.2.2.1⟩
abbrev l_mat_result_0 (N : Nat) : LoopSpec := ⟨0, h_mat_result_0, e_mat_result_0, fun x => g_mat_result_0 N N x.1 x.2.1 x.2.2.1 x.2.2.2.1 x.2.2.2.2.1 x.2.2.2.2.2.1 x.2.2.2.2.2.2.1 x.2.2.2.2.2.2.2.1⟩

theorem cs_mat_result_ok (S : Nat → Addr) (N : Nat) : CallsOK Go.Proofs.Tryd.prog E S (cs_mat_result N) :=
  .cons (F_tens_Valid_ok S N) (.cons (F_mat_Result_ok S N) (.nil))
noncomputable abbrev b_mat_result_0 : Code := (loopsOf b_mat_result).getD 0 .skip
theorem g_mat_result_0_ok (S : Nat → Addr) (N : Nat) : ∀ n x y, (fun (x : Val (slotsTy h_mat_result_0)) => g_mat_result_0 N n x.1 x.2.1 x.2.2.1 x.2.2.2.1 x.2.2.2.2.1 x.2.2.2.2.2.1 x.2.2.2.2.2.2.1 x.2.2.2.2.2.2.2.1) x = some y → LoopCon Go.Proofs.Tryd.prog E S b_mat_result_0 (encSlots h_mat_result_0 x) (encEx e_mat_result_0 y).1 (encEx e_mat_result_0 y).2 :=
  loop_spec E_ok mixed (cs_mat_result_ok S N) (all := loopsOf b_mat_result) (ls := []) (.nil) (i := 0) (by kernel_rfl) (inner_of (by kernel_rfl)) (head := h_mat_result_0) (ex := e_mat_result_0) (fun n (x : Val (slotsTy h_mat_result_0)) => g_mat_result_0 N n x.1 x.2.1 x.2.2.1 x.2.2.2.1 x.2.2.2.2.1 x.2.2.2.2.2.1 x.2.2.2.2.2.2.1 x.2.2.2.2.2.2.2.1) (fun _ => rfl) (fun n x => by kernel_rfl)
theorem F_mat_result_ok (S : Nat → Addr) (N : Nat) : ∀ x y, (c_mat_result N).g x = some y → FCon Go.Proofs.Tryd.prog E S 25 ps_mat_result rs_mat_result x y := by
  intro x y h
  exact fun_spec E_ok mixed (cs_mat_result_ok S N) (f := 25) (fi := ⟨b_mat_result, 37, Go.Proofs.Tryd.f25.results.toList⟩) (by kernel_rfl) (ls := [l_mat_result_0 N]) (.cons (by kernel_rfl) (g_mat_result_0_ok S N N) (.nil)) (by kernel_rfl) (ps := ps_mat_result) (rs := rs_mat_result) (Eq.trans (b := F_mat_result N x.1 x.2.1 x.2.2.1 x.2.2.2.1) (by kernel_rfl) h)

/-! lodge/tens.Wide -/

abbrev ps_tens_Wide : List Ty := [(.int .i64)]
abbrev rs_tens_Wide : List Slot := [.data (.int .i64)]
abbrev cs_tens_Wide (N : Nat) : List CallSpec := []
noncomputable abbrev b_tens_Wide : Code := (Go.Proofs.Tryd.f26.body).getD .skip

def F_tens_Wide (N : Nat) (n_0 : Int) : Option (Int × Unit) :=
  some ((wi64 (wi32 (wu32 (wu64 n_0)))), ())

abbrev c_tens_Wide (N : Nat) : CallSpec := ⟨26, ps_tens_Wide, rs_tens_Wide, fun x => F_tens_Wide N x.1⟩

theorem cs_tens_Wide_ok (S : Nat → Addr) (N : Nat) : CallsOK Go.Proofs.Tryd.prog E S (cs_tens_Wide N) :=
  .nil
theorem F_tens_Wide_ok (S : Nat → Addr) (N : Nat) : ∀ x y, (c_tens_Wide N).g x = some y → FCon Go.Proofs.Tryd.prog E S 26 ps_tens_Wide rs_tens_Wide x y := by
  intro x y h
  exact fun_spec E_ok mixed (cs_tens_Wide_ok S N) (f := 26) (fi := ⟨b_tens_Wide, 8, Go.Proofs.Tryd.f26.results.toList⟩) (by kernel_rfl) (ls := []) (.nil) (by kernel_rfl) (ps := ps_tens_Wide) (rs := rs_tens_Wide) (Eq.trans (b := F_tens_Wide N x.1) (by kernel_rfl) h)

/-! lodge/mat.Mul -/

abbrev ps_mat_Mul : List Ty := [(.st (.pair (.st (.pair (.sl (.int .i64)) .bool)) (.sl (.int .i64)))), (.st (.pair (.st (.pair (.sl (.int .i64)) .bool)) (.sl (.int .i64)))), (.int .i64), (.int .i64)]
abbrev rs_mat_Mul : List Slot := [.ag [.d (.sl (.int .i64)), .d .bool, .sl (.int .i64)], .data .err]
abbrev cs_mat_Mul (N : Nat) : List CallSpec := [c_mat_result N, c_tens_Wide N]
noncomputable abbrev b_mat_Mul : Code := (Go.Proofs.Tryd.f11.body).getD .skip

abbrev h_mat_Mul_2 : List Slot := [.dead, .dead, .data (.int .i64), .data (.int .i64), .box [.d (.st (.pair (.st (.pair (.sl (.int .i64)) .bool)) (.sl (.int .i64))))], .box [.d (.st (.pair (.st (.pair (.sl (.int .i64)) .bool)) (.sl (.int .i64))))], .dead, .dead, .box [.sl (.int .i64), .d .bool, .sl (.int .i64)], .dead, .dead, .dead, .data (.int .i64), .data (.int .i64), .data (.int .i64), .box [.d (.sl (.int .i64)), .d .bool, .sl (.int .i64)], .data (.int .i64), .data (.int .i64), .data (.int .i64), .dead, .dead, .dead, .dead, .dead, .dead, .dead, .dead, .dead, .dead, .dead, .dead, .dead, .dead, .dead, .dead, .dead, .dead, .dead, .dead, .dead, .dead, .dead, .dead, .dead, .dead, .dead, .dead, .dead, .dead, .dead, .dead, .dead, .dead, .dead, .dead, .dead, .dead, .dead, .dead, .dead, .dead, .dead, .dead, .data (.int .i64), .data (.int .i64), .dead, .dead, .dead, .dead, .dead, .dead, .dead, .dead, .dead, .dead, .dead, .dead, .dead, .dead, .dead, .dead, .dead, .dead, .dead, .dead, .dead, .dead, .dead, .dead, .dead, .dead, .dead, .dead, .dead, .dead, .dead, .dead, .dead, .dead, .dead, .dead, .dead, .dead, .dead]
abbrev e_mat_Mul_2 : List (AX × List Slot) := [(AX.exit 4, [.dead, .dead, .data (.int .i64), .data (.int .i64), .box [.d (.st (.pair (.st (.pair (.sl (.int .i64)) .bool)) (.sl (.int .i64))))], .box [.d (.st (.pair (.st (.pair (.sl (.int .i64)) .bool)) (.sl (.int .i64))))], .dead, .dead, .box [.sl (.int .i64), .d .bool, .sl (.int .i64)], .dead, .dead, .dead, .data (.int .i64), .data (.int .i64), .data (.int .i64), .box [.d (.sl (.int .i64)), .d .bool, .sl (.int .i64)], .data (.int .i64), .data (.int .i64), .data (.int .i64), .dead, .dead, .dead, .dead, .dead, .dead, .dead, .dead, .dead, .dead, .dead, .dead, .dead, .dead, .dead, .dead, .dead, .dead, .dead, .dead, .dead, .dead, .dead, .dead, .dead, .dead, .dead, .dead, .dead, .dead, .dead, .dead, .dead, .dead, .dead, .dead, .dead, .dead, .dead, .dead, .dead, .dead, .dead, .dead, .dead, .dead, .dead, .dead, .dead, .dead, .dead, .dead, .dead, .dead, .dead, .dead, .dead, .dead, .dead, .dead, .dead, .dead, .dead, .dead, .dead, .dead, .dead, .dead, .dead, .dead, .dead, .dead, .dead, .dead, .dead, .dead, .dead, .dead, .dead, .dead, .dead, .dead, .dead, .dead, .dead])]
def g_mat_Mul_2 (N : Nat) : Nat → Int → Int → (((List Int × Bool) × List Int) × Unit) → (((List Int × Bool) × List Int) × Unit) → (List Int × (Bool × (List Int × Unit))) → Int → Int → Int → (List Int × (Bool × (List Int × Unit))) → Int → Int → Int → Int → Int → Option (Int × (Int × ((((List Int × Bool) × List Int) × Unit) × ((((List Int × Bool) × List Int) × Unit) × ((List Int × (Bool × (List Int × Unit))) × (Int × (Int × (Int × ((List Int × (Bool × (List Int × Unit))) × (Int × (Int × (Int × Unit))))))))))))
  | 0, _, _, _, _, _, _, _, _, _, _, _, _, _, _ => none
  | n + 1, za_2, zb_3, a_4, b_5, t_8, m_12, k_13, n_14, out_15, i_16, j_17, s_18, t_63, t_64 =>
    cond (decide (t_64 < t_63))
      (
      cond (decide ((0 : Int) ≤ (wi64 ((wi64 (i_16 * k_13)) + t_64))))
        (
        cond (decide ((Int.toNat (wi64 ((wi64 (i_16 * k_13)) + t_64))) < (List.length ((a_4).1).2)))
          (
          cond (decide ((0 : Int) ≤ (wi64 ((wi64 (t_64 * n_14)) + j_17))))
            (
            cond (decide ((Int.toNat (wi64 ((wi64 (t_64 * n_14)) + j_17))) < (List.length ((b_5).1).2)))
              (
              cond (decide ((List.length (t_8).1) = (List.length (t_8).1)))
                (
                cond (decide ((List.length (((t_8).2).2).1) = (List.length (((t_8).2).2).1)))
                  (
                  cond (decide ((List.length (((out_15).2).2).1) = (List.length (((out_15).2).2).1)))
                    (
                    (g_mat_Mul_2 N n za_2 zb_3 a_4 b_5 t_8 m_12 k_13 n_14 out_15 i_16 j_17 (wi64 (s_18 + (wi64 ((wi64 ((List.getD ((a_4).1).2 (Int.toNat (wi64 ((wi64 (i_16 * k_13)) + t_64))) (0 : Int)) - za_2)) * (wi64 ((List.getD ((b_5).1).2 (Int.toNat (wi64 ((wi64 (t_64 * n_14)) + j_17))) (0 : Int)) - zb_3)))))) t_63 (wi64 (t_64 + (1 : Int)))))
                    (
                    none))
                  (
                  none))
                (
                none))
              (
              none))
            (
            none))
          (
          none))
        (
        none))
      (
      cond (decide ((List.length (t_8).1) = (List.length (t_8).1)))
        (
        cond (decide ((List.length (((t_8).2).2).1) = (List.length (((t_8).2).2).1)))
          (
          cond (decide ((List.length (((out_15).2).2).1) = (List.length (((out_15).2).2).1)))
            (
            some (za_2, (zb_3, (a_4, (b_5, (t_8, (m_12, (k_13, (n_14, (out_15, (i_16, (j_17, (s_18, ())))))))))))))
            (
            none))
          (
          none))
        (
        none))

abbrev h_mat_Mul_1 : List Slot := [.dead, .dead, .data (.int .i64), .data (.int .i64), .box [.d (.st (.pair (.st (.pair (.sl (.int .i64)) .bool)) (.sl (.int .i64))))], .box [.d (.st (.pair (.st (.pair (.sl (.int .i64)) .bool)) (.sl (.int .i64))))], .dead, .dead, .box [.sl (.int .i64), .d .bool, .sl (.int .i64)], .dead, .dead, .dead, .data (.int .i64), .data (.int .i64), .data (.int .i64), .box [.d (.sl (.int .i64)), .d .bool, .sl (.int .i64)], .data (.int .i64), .data (.int .i64), .dead, .dead, .dead, .dead, .dead, .dead, .dead, .dead, .dead, .dead, .dead, .dead, .dead, .dead, .dead, .dead, .dead, .dead, .dead, .dead, .dead, .dead, .dead, .dead, .dead, .dead, .dead, .dead, .dead, .dead, .dead, .dead, .dead, .dead, .dead, .dead, .dead, .dead, .dead, .dead, .dead, .dead, .dead, .dead, .dead, .dead, .dead, .dead, .dead, .dead, .dead, .dead, .dead, .dead, .dead, .dead, .dead, .dead, .dead, .dead, .dead, .dead, .dead, .dead, .dead, .dead, .dead, .dead, .dead, .dead, .dead, .dead, .dead, .dead, .dead, .dead, .dead, .dead, .dead, .dead, .dead, .dead, .dead, .dead, .dead, .dead]
abbrev e_mat_Mul_1 : List (AX × List Slot) := [(AX.exit 0, [.dead, .dead, .dead, .dead, .dead, .dead, .dead, .dead, .box [.sl (.int .i64), .d .bool, .sl (.int .i64)], .dead, .dead, .dead, .dead, .dead, .dead, .box [.d (.sl (.int .i64)), .d .bool, .sl (.int .i64)], .dead, .dead, .dead, .dead, .dead, .dead, .dead, .dead, .dead, .dead, .dead, .dead, .dead, .dead, .dead, .dead, .dead, .dead, .dead, .dead, .dead, .dead, .dead, .dead, .dead, .dead, .dead, .dead, .dead, .dead, .dead, .dead, .dead, .dead, .dead, .dead, .dead, .dead, .dead, .dead, .dead, .dead, .dead, .dead, .dead, .dead, .dead, .dead, .dead, .dead, .dead, .dead, .dead, .dead, .dead, .dead, .dead, .dead, .dead, .dead, .dead, .dead, .dead, .dead, .dead, .dead, .dead, .dead, .dead, .dead, .dead, .dead, .dead, .dead, .dead, .dead, .dead, .dead, .dead, .dead, .dead, .dead, .dead, .dead, .dead, .dead, .dead, .dead]), (AX.exit 1, [.dead, .dead, .data (.int .i64), .data (.int .i64), .box [.d (.st (.pair (.st (.pair (.sl (.int .i64)) .bool)) (.sl (.int .i64))))], .box [.d (.st (.pair (.st (.pair (.sl (.int .i64)) .bool)) (.sl (.int .i64))))], .dead, .dead, .box [.sl (.int .i64), .d .bool, .sl (.int .i64)], .dead, .dead, .dead, .data (.int .i64), .data (.int .i64), .data (.int .i64), .box [.d (.sl (.int .i64)), .d .bool, .sl (.int .i64)], .data (.int .i64), .dead, .dead, .dead, .dead, .dead, .dead, .dead, .dead, .dead, .dead, .dead, .dead, .dead, .dead, .dead, .dead, .dead, .dead, .dead, .dead, .dead, .dead, .dead, .dead, .dead, .dead, .dead, .dead, .dead, .dead, .dead, .dead, .dead, .dead, .dead, .dead, .dead, .dead, .dead, .dead, .dead, .dead, .dead, .dead, .dead, .dead, .dead, .dead, .dead, .dead, .dead, .dead, .dead, .dead, .dead, .dead, .dead, .dead, .dead, .dead, .dead, .dead, .dead, .dead, .dead, .dead, .dead, .dead, .dead, .dead, .dead, .dead, .dead, .dead, .dead, .dead, .dead, .dead, .dead, .dead, .dead, .dead, .dead, .dead, .dead, .dead, .dead])]
def g_mat_Mul_1 (N : Nat) : Nat → Int → Int → (((List Int × Bool) × List Int) × Unit) → (((List Int × Bool) × List Int) × Unit) → (List Int × (Bool × (List Int × Unit))) → Int → Int → Int → (List Int × (Bool × (List Int × Unit))) → Int → Int → Option (Sum ((List Int × (Bool × (List Int × Unit))) × ((List Int × (Bool × (List Int × Unit))) × Unit)) (Int × (Int × ((((List Int × Bool) × List Int) × Unit) × ((((List Int × Bool) × List Int) × Unit) × ((List Int × (Bool × (List Int × Unit))) × (Int × (Int × (Int × ((List Int × (Bool × (List Int × Unit))) × (Int × Unit)))))))))))
  | 0, _, _, _, _, _, _, _, _, _, _, _ => none
  | n + 1, za_2, zb_3, a_4, b_5, t_8, m_12, k_13, n_14, out_15, i_16, j_17 =>
    cond (decide (j_17 = n_14))
      (
      cond (decide ((List.length (t_8).1) = (List.length (t_8).1)))
        (
        cond (decide ((List.length (((t_8).2).2).1) = (List.length (((t_8).2).2).1)))
          (
          cond (decide ((List.length (((out_15).2).2).1) = (List.length (((out_15).2).2).1)))
            (
            some (Sum.inr (za_2, (zb_3, (a_4, (b_5, (t_8, (m_12, (k_13, (n_14, (out_15, (i_16, ()))))))))))))
            (
            none))
          (
          none))
        (
        none))
      (
      cond (decide (i_16 = m_12))
        (
        cond (decide ((List.length (t_8).1) = (List.length (t_8).1)))
          (
          cond (decide ((List.length (((t_8).2).2).1) = (List.length (((t_8).2).2).1)))
            (
            cond (decide ((List.length (((out_15).2).2).1) = (List.length (((out_15).2).2).1)))
              (
              some (Sum.inl (t_8, (out_15, ()))))
              (
              none))
            (
            none))
          (
          none))
        (
        cond (decide ((List.length (t_8).1) = (List.length (t_8).1)))
          (
          cond (decide ((List.length (((t_8).2).2).1) = (List.length (((t_8).2).2).1)))
            (
            cond (decide ((List.length (((out_15).2).2).1) = (List.length (((out_15).2).2).1)))
              (
              Option.bind (g_mat_Mul_2 N N za_2 zb_3 a_4 b_5 t_8 m_12 k_13 n_14 out_15 i_16 j_17 (0 : Int) k_13 (0 : Int)) fun y3 =>
              Option.bind (F_tens_Wide N ((((((((((((y3).2).2).2).2).2).2).2).2).2).2).2).1) fun y4 =>
              cond (decide ((0 : Int) ≤ (wi64 ((wi64 (((((((((((y3).2).2).2).2).2).2).2).2).2).1 * ((((((((y3).2).2).2).2).2).2).2).1)) + (((((((((((y3).2).2).2).2).2).2).2).2).2).2).1))))
                (
                cond (decide ((Int.toNat (wi64 ((wi64 (((((((((((y3).2).2).2).2).2).2).2).2).2).1 * ((((((((y3).2).2).2).2).2).2).2).1)) + (((((((((((y3).2).2).2).2).2).2).2).2).2).2).1))) < (List.length ((((((((((((y3).2).2).2).2).2).2).2).2).1).2).2).1)))
                  (
                  cond (decide (((0 : Nat) + (Int.toNat (wi64 ((wi64 (((((((((((y3).2).2).2).2).2).2).2).2).2).1 * ((((((((y3).2).2).2).2).2).2).2).1)) + (((((((((((y3).2).2).2).2).2).2).2).2).2).2).1)))) < (List.length ((((((((((((y3).2).2).2).2).2).2).2).2).1).2).2).1)))
                    (
                    cond (decide ((List.length ((((((y3).2).2).2).2).1).1) = (List.length ((((((y3).2).2).2).2).1).1)))
                      (
                      cond (decide ((List.length ((((((((y3).2).2).2).2).1).2).2).1) = (List.length ((((((((y3).2).2).2).2).1).2).2).1)))
                        (
                        cond (decide ((List.length ((((((((((((y3).2).2).2).2).2).2).2).2).1).2).2).1) = (List.length (List.set ((((((((((((y3).2).2).2).2).2).2).2).2).1).2).2).1 ((0 : Nat) + (Int.toNat (wi64 ((wi64 (((((((((((y3).2).2).2).2).2).2).2).2).2).1 * ((((((((y3).2).2).2).2).2).2).2).1)) + (((((((((((y3).2).2).2).2).2).2).2).2).2).2).1)))) (y4).1))))
                          (
                          (g_mat_Mul_1 N n (y3).1 ((y3).2).1 (((y3).2).2).1 ((((y3).2).2).2).1 (((((y3).2).2).2).2).1 ((((((y3).2).2).2).2).2).1 (((((((y3).2).2).2).2).2).2).1 ((((((((y3).2).2).2).2).2).2).2).1 (((((((((((y3).2).2).2).2).2).2).2).2).1).1, ((((((((((((y3).2).2).2).2).2).2).2).2).1).2).1, ((List.set ((((((((((((y3).2).2).2).2).2).2).2).2).1).2).2).1 ((0 : Nat) + (Int.toNat (wi64 ((wi64 (((((((((((y3).2).2).2).2).2).2).2).2).2).1 * ((((((((y3).2).2).2).2).2).2).2).1)) + (((((((((((y3).2).2).2).2).2).2).2).2).2).2).1)))) (y4).1), ()))) ((((((((((y3).2).2).2).2).2).2).2).2).2).1 (wi64 ((((((((((((y3).2).2).2).2).2).2).2).2).2).2).1 + (1 : Int)))))
                          (
                          none))
                        (
                        none))
                      (
                      none))
                    (
                    none))
                  (
                  none))
                (
                none))
              (
              none))
            (
            none))
          (
          none)))

abbrev h_mat_Mul_0 : List Slot := [.dead, .dead, .data (.int .i64), .data (.int .i64), .box [.d (.st (.pair (.st (.pair (.sl (.int .i64)) .bool)) (.sl (.int .i64))))], .box [.d (.st (.pair (.st (.pair (.sl (.int .i64)) .bool)) (.sl (.int .i64))))], .dead, .dead, .box [.sl (.int .i64), .d .bool, .sl (.int .i64)], .dead, .dead, .dead, .data (.int .i64), .data (.int .i64), .data (.int .i64), .box [.d (.sl (.int .i64)), .d .bool, .sl (.int .i64)], .data (.int .i64), .dead, .dead, .dead, .dead, .dead, .dead, .dead, .dead, .dead, .dead, .dead, .dead, .dead, .dead, .dead, .dead, .dead, .dead, .dead, .dead, .dead, .dead, .dead, .dead, .dead, .dead, .dead, .dead, .dead, .dead, .dead, .dead, .dead, .dead, .dead, .dead, .dead, .dead, .dead, .dead, .dead, .dead, .dead, .dead, .dead, .dead, .dead, .dead, .dead, .dead, .dead, .dead, .dead, .dead, .dead, .dead, .dead, .dead, .dead, .dead, .dead, .dead, .dead, .dead, .dead, .dead, .dead, .dead, .dead, .dead, .dead, .dead, .dead, .dead, .dead, .dead, .dead, .dead, .dead, .dead, .dead, .dead, .dead, .dead, .dead, .dead, .dead]
abbrev e_mat_Mul_0 : List (AX × List Slot) := [(AX.exit 0, [.dead, .dead, .dead, .dead, .dead, .dead, .dead, .dead, .box [.sl (.int .i64), .d .bool, .sl (.int .i64)], .dead, .dead, .dead, .dead, .dead, .dead, .box [.d (.sl (.int .i64)), .d .bool, .sl (.int .i64)], .dead, .dead, .dead, .dead, .dead, .dead, .dead, .dead, .dead, .dead, .dead, .dead, .dead, .dead, .dead, .dead, .dead, .dead, .dead, .dead, .dead, .dead, .dead, .dead, .dead, .dead, .dead, .dead, .dead, .dead, .dead, .dead, .dead, .dead, .dead, .dead, .dead, .dead, .dead, .dead, .dead, .dead, .dead, .dead, .dead, .dead, .dead, .dead, .dead, .dead, .dead, .dead, .dead, .dead, .dead, .dead, .dead, .dead, .dead, .dead, .dead, .dead, .dead, .dead, .dead, .dead, .dead, .dead, .dead, .dead, .dead, .dead, .dead, .dead, .dead, .dead, .dead, .dead, .dead, .dead, .dead, .dead, .dead, .dead, .dead, .dead, .dead, .dead])]
def g_mat_Mul_0 (N : Nat) : Nat → Int → Int → (((List Int × Bool) × List Int) × Unit) → (((List Int × Bool) × List Int) × Unit) → (List Int × (Bool × (List Int × Unit))) → Int → Int → Int → (List Int × (Bool × (List Int × Unit))) → Int → Option ((List Int × (Bool × (List Int × Unit))) × ((List Int × (Bool × (List Int × Unit))) × Unit))
  | 0, _, _, _, _, _, _, _, _, _, _ => none
  | n + 1, za_2, zb_3, a_4, b_5, t_8, m_12, k_13, n_14, out_15, i_16 =>
    cond (decide ((List.length (t_8).1) = (List.length (t_8).1)))
      (
      cond (decide ((List.length (((t_8).2).2).1) = (List.length (((t_8).2).2).1)))
        (
        cond (decide ((List.length (((out_15).2).2).1) = (List.length (((out_15).2).2).1)))
          (
          Option.bind (g_mat_Mul_1 N N za_2 zb_3 a_4 b_5 t_8 m_12 k_13 n_14 out_15 i_16 (0 : Int)) fun y8 =>
          Sum.elim (fun y9 =>
            cond (decide ((List.length ((y9).1).1) = (List.length ((y9).1).1)))
              (
              cond (decide ((List.length ((((y9).1).2).2).1) = (List.length ((((y9).1).2).2).1)))
                (
                cond (decide ((List.length (((((y9).2).1).2).2).1) = (List.length (((((y9).2).1).2).2).1)))
                  (
                  some y9)
                  (
                  none))
                (
                none))
              (
              none))
            (fun y10 =>
            cond (decide ((List.length ((((((y10).2).2).2).2).1).1) = (List.length ((((((y10).2).2).2).2).1).1)))
              (
              cond (decide ((List.length ((((((((y10).2).2).2).2).1).2).2).1) = (List.length ((((((((y10).2).2).2).2).1).2).2).1)))
                (
                cond (decide ((List.length ((((((((((((y10).2).2).2).2).2).2).2).2).1).2).2).1) = (List.length ((((((((((((y10).2).2).2).2).2).2).2).2).1).2).2).1)))
                  (
                  (g_mat_Mul_0 N n (y10).1 ((y10).2).1 (((y10).2).2).1 ((((y10).2).2).2).1 (((((y10).2).2).2).2).1 ((((((y10).2).2).2).2).2).1 (((((((y10).2).2).2).2).2).2).1 ((((((((y10).2).2).2).2).2).2).2).1 (((((((((y10).2).2).2).2).2).2).2).2).1 (wi64 (((((((((((y10).2).2).2).2).2).2).2).2).2).1 + (1 : Int)))))
                  (
                  none))
                (
                none))
              (
              none)) y8)
          (
          none))
        (
        none))
      (
      none)

def F_mat_Mul (N : Nat) (a_0 : ((List Int × Bool) × List Int)) (b_1 : ((List Int × Bool) × List Int)) (za_2 : Int) (zb_3 : Int) : Option ((List Int × (Bool × (List Int × Unit))) × (Er × Unit)) :=
  Option.bind (F_mat_result N a_0 b_1 za_2 zb_3) fun y0 =>
  cond (Bool.not (Go.Eng.Er.isNil ((y0).2).1))
    (
    some ((([] : List Int), (false, (([] : List Int), ()))), (y0).2))
    (
    cond (decide (0 < (List.length ((a_0).1).1)))
      (
      cond (decide (1 < (List.length ((a_0).1).1)))
        (
        cond (decide (1 < (List.length ((b_1).1).1)))
          (
          cond (decide ((0 : Int) ≤ (wi64 ((List.getD ((a_0).1).1 0 (0 : Int)) * (List.getD ((b_1).1).1 1 (0 : Int))))))
            (
            cond (decide ((wi64 ((List.getD ((a_0).1).1 0 (0 : Int)) * (List.getD ((b_1).1).1 1 (0 : Int)))) ≤ (wi64 ((List.getD ((a_0).1).1 0 (0 : Int)) * (List.getD ((b_1).1).1 1 (0 : Int))))))
              (
              cond (decide (((wi64 ((List.getD ((a_0).1).1 0 (0 : Int)) * (List.getD ((b_1).1).1 1 (0 : Int)))) * ((Nat.cast 8 : Int) + (1 : Int))) ≤ (Nat.cast Go.Eng.most : Int)))
                (
                cond (decide ((Int.toNat (wi64 ((List.getD ((a_0).1).1 0 (0 : Int)) * (List.getD ((b_1).1).1 1 (0 : Int))))) = (List.length (List.replicate (Int.toNat (wi64 ((List.getD ((a_0).1).1 0 (0 : Int)) * (List.getD ((b_1).1).1 1 (0 : Int))))) (0 : Int)))))
                  (
                  Option.bind (g_mat_Mul_0 N N za_2 zb_3 (a_0, ()) (b_1, ()) (([] : List Int), (false, (([] : List Int), ()))) (List.getD ((a_0).1).1 0 (0 : Int)) (List.getD ((a_0).1).1 1 (0 : Int)) (List.getD ((b_1).1).1 1 (0 : Int)) (((y0).1).1, (((y0).1).2, ((List.replicate (Int.toNat (wi64 ((List.getD ((a_0).1).1 0 (0 : Int)) * (List.getD ((b_1).1).1 1 (0 : Int))))) (0 : Int)), ()))) (0 : Int)) fun y1 =>
                  cond (decide ((List.length (((((y1).2).1).2).2).1) = (List.length (((((y1).2).1).2).2).1)))
                    (
                    some (((y1).2).1, (Go.Eng.Er.nil, ())))
                    (
                    none))
                  (
                  none))
                (
                none))
              (
              none))
            (
            none))
          (
          none))
        (
        none))
      (
      none))

abbrev c_mat_Mul (N : Nat) : CallSpec := ⟨11, ps_mat_Mul, rs_mat_Mul, fun x => F_mat_Mul N x.1 x.2.1 x.2.2.1 x.2.2.2.1⟩
abbrev l_mat_Mul_2 (N : Nat) : LoopSpec := ⟨2, h_mat_Mul_2, e_mat_Mul_2, fun x => g_mat_Mul_2 N N x.1 x.2.1 x.2.2.1 x.2.2.2.1 x.2.2.2.2.1 x.2.2.2.2.2.1 x.2.2.2.2.2.2.1 x.2.2.2.2.2.2.2.1 x.2.2.2.2.2.2.2.2.1 x.2.2.2.2.2.2.2.2.2.1 x.2.2.2.2.2.2.2.2.2.2.1 x.2.2.2.2.2.2.2.2.2.2.2.1 x.2.2.2.2.2.2.2.2.2.2.2.2.1 x.2.2.2.2.2.2.2.2.2.2.2.2.2.1⟩
abbrev l_mat_Mul_1 (N : Nat) : LoopSpec := ⟨1, h_mat_Mul_1, e_mat_Mul_1, fun x => g_mat_Mul_1 N N x.1 x.2.1 x.2.2.1 x.2.2.2.1 x.2.2.2.2.1 x.2.2.2.2.2.1 x.2.2.2.2.2.2.1 x.2.2.2.2.2.2.2.1 x.2.2.2.2.2.2.2.2.1 x.2.2.2.2.2.2.2.2.2.1 x.2.2.2.2.2.2.2.2.2.2.1⟩
abbrev l_mat_Mul_0 (N : Nat) : LoopSpec := ⟨0, h_mat_Mul_0, e_mat_Mul_0, fun x => g_mat_Mul_0 N N x.1 x.2.1 x.2.2.1 x.2.2.2.1 x.2.2.2.2.1 x.2.2.2.2.2.1 x.2.2.2.2.2.2.1 x.2.2.2.2.2.2.2.1 x.2.2.2.2.2.2.2.2.1 x.2.2.2.2.2.2.2.2.2.1⟩

theorem cs_mat_Mul_ok (S : Nat → Addr) (N : Nat) : CallsOK Go.Proofs.Tryd.prog E S (cs_mat_Mul N) :=
  .cons (F_mat_result_ok S N) (.cons (F_tens_Wide_ok S N) (.nil))
noncomputable abbrev b_mat_Mul_2 : Code := (loopsOf b_mat_Mul).getD 2 .skip
theorem g_mat_Mul_2_ok (S : Nat → Addr) (N : Nat) : ∀ n x y, (fun (x : Val (slotsTy h_mat_Mul_2)) => g_mat_Mul_2 N n x.1 x.2.1 x.2.2.1 x.2.2.2.1 x.2.2.2.2.1 x.2.2.2.2.2.1 x.2.2.2.2.2.2.1 x.2.2.2.2.2.2.2.1 x.2.2.2.2.2.2.2.2.1 x.2.2.2.2.2.2.2.2.2.1 x.2.2.2.2.2.2.2.2.2.2.1 x.2.2.2.2.2.2.2.2.2.2.2.1 x.2.2.2.2.2.2.2.2.2.2.2.2.1 x.2.2.2.2.2.2.2.2.2.2.2.2.2.1) x = some y → LoopCon Go.Proofs.Tryd.prog E S b_mat_Mul_2 (encSlots h_mat_Mul_2 x) (encEx e_mat_Mul_2 y).1 (encEx e_mat_Mul_2 y).2 :=
  loop_spec E_ok mixed (cs_mat_Mul_ok S N) (all := loopsOf b_mat_Mul) (ls := []) (.nil) (i := 2) (by kernel_rfl) (inner_of (by kernel_rfl)) (head := h_mat_Mul_2) (ex := e_mat_Mul_2) (fun n (x : Val (slotsTy h_mat_Mul_2)) => g_mat_Mul_2 N n x.1 x.2.1 x.2.2.1 x.2.2.2.1 x.2.2.2.2.1 x.2.2.2.2.2.1 x.2.2.2.2.2.2.1 x.2.2.2.2.2.2.2.1 x.2.2.2.2.2.2.2.2.1 x.2.2.2.2.2.2.2.2.2.1 x.2.2.2.2.2.2.2.2.2.2.1 x.2.2.2.2.2.2.2.2.2.2.2.1 x.2.2.2.2.2.2.2.2.2.2.2.2.1 x.2.2.2.2.2.2.2.2.2.2.2.2.2.1) (fun _ => rfl) (fun n x => by kernel_rfl)
noncomputable abbrev b_mat_Mul_1 : Code := (loopsOf b_mat_Mul).getD 1 .skip
theorem g_mat_Mul_1_ok (S : Nat → Addr) (N : Nat) : ∀ n x y, (fun (x : Val (slotsTy h_mat_Mul_1)) => g_mat_Mul_1 N n x.1 x.2.1 x.2.2.1 x.2.2.2.1 x.2.2.2.2.1 x.2.2.2.2.2.1 x.2.2.2.2.2.2.1 x.2.2.2.2.2.2.2.1 x.2.2.2.2.2.2.2.2.1 x.2.2.2.2.2.2.2.2.2.1 x.2.2.2.2.2.2.2.2.2.2.1) x = some y → LoopCon Go.Proofs.Tryd.prog E S b_mat_Mul_1 (encSlots h_mat_Mul_1 x) (encEx e_mat_Mul_1 y).1 (encEx e_mat_Mul_1 y).2 :=
  loop_spec E_ok mixed (cs_mat_Mul_ok S N) (all := loopsOf b_mat_Mul) (ls := [l_mat_Mul_2 N]) (.cons (by kernel_rfl) (g_mat_Mul_2_ok S N N) (.nil)) (i := 1) (by kernel_rfl) (inner_of (by kernel_rfl)) (head := h_mat_Mul_1) (ex := e_mat_Mul_1) (fun n (x : Val (slotsTy h_mat_Mul_1)) => g_mat_Mul_1 N n x.1 x.2.1 x.2.2.1 x.2.2.2.1 x.2.2.2.2.1 x.2.2.2.2.2.1 x.2.2.2.2.2.2.1 x.2.2.2.2.2.2.2.1 x.2.2.2.2.2.2.2.2.1 x.2.2.2.2.2.2.2.2.2.1 x.2.2.2.2.2.2.2.2.2.2.1) (fun _ => rfl) (fun n x => by kernel_rfl)
noncomputable abbrev b_mat_Mul_0 : Code := (loopsOf b_mat_Mul).getD 0 .skip
theorem g_mat_Mul_0_ok (S : Nat → Addr) (N : Nat) : ∀ n x y, (fun (x : Val (slotsTy h_mat_Mul_0)) => g_mat_Mul_0 N n x.1 x.2.1 x.2.2.1 x.2.2.2.1 x.2.2.2.2.1 x.2.2.2.2.2.1 x.2.2.2.2.2.2.1 x.2.2.2.2.2.2.2.1 x.2.2.2.2.2.2.2.2.1 x.2.2.2.2.2.2.2.2.2.1) x = some y → LoopCon Go.Proofs.Tryd.prog E S b_mat_Mul_0 (encSlots h_mat_Mul_0 x) (encEx e_mat_Mul_0 y).1 (encEx e_mat_Mul_0 y).2 :=
  loop_spec E_ok mixed (cs_mat_Mul_ok S N) (all := loopsOf b_mat_Mul) (ls := [l_mat_Mul_2 N, l_mat_Mul_1 N]) (.cons (by kernel_rfl) (g_mat_Mul_2_ok S N N) (.cons (by kernel_rfl) (g_mat_Mul_1_ok S N N) (.nil))) (i := 0) (by kernel_rfl) (inner_of (by kernel_rfl)) (head := h_mat_Mul_0) (ex := e_mat_Mul_0) (fun n (x : Val (slotsTy h_mat_Mul_0)) => g_mat_Mul_0 N n x.1 x.2.1 x.2.2.1 x.2.2.2.1 x.2.2.2.2.1 x.2.2.2.2.2.1 x.2.2.2.2.2.2.1 x.2.2.2.2.2.2.2.1 x.2.2.2.2.2.2.2.2.1 x.2.2.2.2.2.2.2.2.2.1) (fun _ => rfl) (fun n x => by kernel_rfl)
theorem F_mat_Mul_ok (S : Nat → Addr) (N : Nat) : ∀ x y, (c_mat_Mul N).g x = some y → FCon Go.Proofs.Tryd.prog E S 11 ps_mat_Mul rs_mat_Mul x y := by
  intro x y h
  exact fun_spec E_ok mixed (cs_mat_Mul_ok S N) (f := 11) (fi := ⟨b_mat_Mul, 104, Go.Proofs.Tryd.f11.results.toList⟩) (by kernel_rfl) (ls := [l_mat_Mul_2 N, l_mat_Mul_1 N, l_mat_Mul_0 N]) (.cons (by kernel_rfl) (g_mat_Mul_2_ok S N N) (.cons (by kernel_rfl) (g_mat_Mul_1_ok S N N) (.cons (by kernel_rfl) (g_mat_Mul_0_ok S N N) (.nil)))) (by kernel_rfl) (ps := ps_mat_Mul) (rs := rs_mat_Mul) (Eq.trans (b := F_mat_Mul N x.1 x.2.1 x.2.2.1 x.2.2.2.1) (by kernel_rfl) h)

/-! lodge/lodgeref.SameInts -/

abbrev ps_lodgeref_SameInts : List Ty := [(.sl (.int .i64)), (.sl (.int .i64))]
abbrev rs_lodgeref_SameInts : List Slot := [.data .bool]
abbrev cs_lodgeref_SameInts (N : Nat) : List CallSpec := []
noncomputable abbrev b_lodgeref_SameInts : Code := (Go.Proofs.Tryd.f12.body).getD .skip

abbrev h_lodgeref_SameInts_0 : List Slot := [.data (.sl (.int .i64)), .data (.sl (.int .i64)), .dead, .dead, .dead, .data (.int .i64), .dead, .dead, .dead, .dead, .dead, .dead, .dead, .dead, .dead, .dead, .dead, .dead, .dead, .dead, .dead, .dead, .dead, .dead, .dead, .dead, .dead, .dead, .dead]
abbrev e_lodgeref_SameInts_0 : List (AX × List Slot) := [(AX.exit 0, [.dead, .dead, .dead, .dead, .dead, .dead, .dead, .dead, .dead, .dead, .dead, .dead, .dead, .dead, .dead, .dead, .dead, .dead, .dead, .dead, .dead, .dead, .dead, .dead, .dead, .dead, .dead, .dead, .dead]), (AX.ret, [.dead, .dead, .dead, .dead, .data .bool, .dead, .dead, .dead, .dead, .dead, .dead, .dead, .dead, .dead, .dead, .dead, .dead, .dead, .dead, .dead, .dead, .dead, .dead, .dead, .dead, .dead, .dead, .dead, .dead])]
def g_lodgeref_SameInts_0 (N : Nat) : Nat → List Int → List Int → Int → Option (Sum Unit (Bool × Unit))
  | 0, _, _, _ => none
  | n + 1, a_0, b_1, i_5 =>
    cond (decide (i_5 < (Nat.cast (List.length a_0) : Int)))
      (
      cond (decide ((0 : Int) ≤ i_5))
        (
        cond (decide ((Int.toNat i_5) < (List.length a_0)))
          (
          cond (decide ((0 : Int) ≤ i_5))
            (
            cond (decide ((Int.toNat i_5) < (List.length b_1)))
              (
              cond (Bool.not (decide ((List.getD a_0 (Int.toNat i_5) (0 : Int)) = (List.getD b_1 (Int.toNat i_5) (0 : Int)))))
                (
                some (Sum.inr (false, ())))
                (
                (g_lodgeref_SameInts_0 N n a_0 b_1 (wi64 (i_5 + (1 : Int))))))
              (
              none))
            (
            none))
          (
          none))
        (
        none))
      (
      some (Sum.inl ()))

def F_lodgeref_SameInts (N : Nat) (a_0 : List Int) (b_1 : List Int) : Option (Bool × Unit) :=
  cond (decide (@Ne Int (Nat.cast (List.length a_0) : Int) (Nat.cast (List.length b_1) : Int)))
    (
    some (false, ()))
    (
    Option.bind (g_lodgeref_SameInts_0 N N a_0 b_1 (0 : Int)) fun y0 =>
    Sum.elim (fun y1 =>
      some (true, ()))
      (fun y2 =>
      some y2) y0)

abbrev c_lodgeref_SameInts (N : Nat) : CallSpec := ⟨12, ps_lodgeref_SameInts, rs_lodgeref_SameInts, fun x => F_lodgeref_SameInts N x.1 x.2.1⟩
abbrev l_lodgeref_SameInts_0 (N : Nat) : LoopSpec := ⟨0, h_lodgeref_SameInts_0, e_lodgeref_SameInts_0, fun x => g_lodgeref_SameInts_0 N N x.1 x.2.1 x.2.2.1⟩

theorem cs_lodgeref_SameInts_ok (S : Nat → Addr) (N : Nat) : CallsOK Go.Proofs.Tryd.prog E S (cs_lodgeref_SameInts N) :=
  .nil
noncomputable abbrev b_lodgeref_SameInts_0 : Code := (loopsOf b_lodgeref_SameInts).getD 0 .skip
theorem g_lodgeref_SameInts_0_ok (S : Nat → Addr) (N : Nat) : ∀ n x y, (fun (x : Val (slotsTy h_lodgeref_SameInts_0)) => g_lodgeref_SameInts_0 N n x.1 x.2.1 x.2.2.1) x = some y → LoopCon Go.Proofs.Tryd.prog E S b_lodgeref_SameInts_0 (encSlots h_lodgeref_SameInts_0 x) (encEx e_lodgeref_SameInts_0 y).1 (encEx e_lodgeref_SameInts_0 y).2 :=
  loop_spec E_ok mixed (cs_lodgeref_SameInts_ok S N) (all := loopsOf b_lodgeref_SameInts) (ls := []) (.nil) (i := 0) (by kernel_rfl) (inner_of (by kernel_rfl)) (head := h_lodgeref_SameInts_0) (ex := e_lodgeref_SameInts_0) (fun n (x : Val (slotsTy h_lodgeref_SameInts_0)) => g_lodgeref_SameInts_0 N n x.1 x.2.1 x.2.2.1) (fun _ => rfl) (fun n x => by kernel_rfl)
theorem F_lodgeref_SameInts_ok (S : Nat → Addr) (N : Nat) : ∀ x y, (c_lodgeref_SameInts N).g x = some y → FCon Go.Proofs.Tryd.prog E S 12 ps_lodgeref_SameInts rs_lodgeref_SameInts x y := by
  intro x y h
  exact fun_spec E_ok mixed (cs_lodgeref_SameInts_ok S N) (f := 12) (fi := ⟨b_lodgeref_SameInts, 29, Go.Proofs.Tryd.f12.results.toList⟩) (by kernel_rfl) (ls := [l_lodgeref_SameInts_0 N]) (.cons (by kernel_rfl) (g_lodgeref_SameInts_0_ok S N N) (.nil)) (by kernel_rfl) (ps := ps_lodgeref_SameInts) (rs := rs_lodgeref_SameInts) (Eq.trans (b := F_lodgeref_SameInts N x.1 x.2.1) (by kernel_rfl) h)

/-! lodge/lodgelaw8.first -/

abbrev ps_lodgelaw8_first : List Ty := []
abbrev rs_lodgelaw8_first : List Slot := [.data .bool]
abbrev cs_lodgelaw8_first (N : Nat) : List CallSpec := [c_mat_Mul N, c_lodgeref_SameInts N]
noncomputable abbrev b_lodgelaw8_first : Code := (Go.Proofs.Tryd.f7.body).getD .skip

def F_lodgelaw8_first (N : Nat)  : Option (Bool × Unit) :=
  Option.bind (F_mat_Mul N ((((1 : Int) :: ((2 : Int) :: ([] : List Int))), false), ((1 : Int) :: ((2 : Int) :: ([] : List Int)))) ((((2 : Int) :: ((1 : Int) :: ([] : List Int))), false), ((3 : Int) :: ((4 : Int) :: ([] : List Int)))) (0 : Int) (0 : Int)) fun y0 =>
  cond (Go.Eng.Er.isNil ((y0).2).1)
    (
    cond (decide (((0 : Nat) + (List.length ((((y0).1).2).2).1)) ≤ (List.length ((((y0).1).2).2).1)))
      (
      Option.bind (F_lodgeref_SameInts N (List.take (List.length ((((y0).1).2).2).1) ((((y0).1).2).2).1) ((11 : Int) :: ([] : List Int))) fun y1 =>
      some y1)
      (
      none))
    (
    some (false, ()))

abbrev c_lodgelaw8_first (N : Nat) : CallSpec := ⟨7, ps_lodgelaw8_first, rs_lodgelaw8_first, fun x => F_lodgelaw8_first N ⟩

theorem cs_lodgelaw8_first_ok (S : Nat → Addr) (N : Nat) : CallsOK Go.Proofs.Tryd.prog E S (cs_lodgelaw8_first N) :=
  .cons (F_mat_Mul_ok S N) (.cons (F_lodgeref_SameInts_ok S N) (.nil))
theorem F_lodgelaw8_first_ok (S : Nat → Addr) (N : Nat) : ∀ x y, (c_lodgelaw8_first N).g x = some y → FCon Go.Proofs.Tryd.prog E S 7 ps_lodgelaw8_first rs_lodgelaw8_first x y := by
  intro x y h
  exact fun_spec E_ok mixed (cs_lodgelaw8_first_ok S N) (f := 7) (fi := ⟨b_lodgelaw8_first, 27, Go.Proofs.Tryd.f7.results.toList⟩) (by kernel_rfl) (ls := []) (.nil) (by kernel_rfl) (ps := ps_lodgelaw8_first) (rs := rs_lodgelaw8_first) (Eq.trans (b := F_lodgelaw8_first N ) (by kernel_rfl) h)

/-! lodge/lodgeworld.Number -/

abbrev ps_lodgeworld_Number : List Ty := [(.int .i64), (.int .i64)]
abbrev rs_lodgeworld_Number : List Slot := [.data (.int .i64)]
abbrev cs_lodgeworld_Number (N : Nat) : List CallSpec := []
noncomputable abbrev b_lodgeworld_Number : Code := (Go.Proofs.Tryd.f8.body).getD .skip

def F_lodgeworld_Number (N : Nat) (n_0 : Int) (below_1 : Int) : Option (Int × Unit) :=
  cond (decide (@Ne Int below_1 (0 : Int)))
    (
    cond (decide (@Ne Int below_1 (0 : Int)))
      (
      some ((Int.tmod (wi64 ((Int.tmod n_0 below_1) + below_1)) below_1), ()))
      (
      none))
    (
    none)

abbrev c_lodgeworld_Number (N : Nat) : CallSpec := ⟨8, ps_lodgeworld_Number, rs_lodgeworld_Number, fun x => F_lodgeworld_Number N x.1 x.2.1⟩

theorem cs_lodgeworld_Number_ok (S : Nat → Addr) (N : Nat) : CallsOK Go.Proofs.Tryd.prog E S (cs_lodgeworld_Number N) :=
  .nil
theorem F_lodgeworld_Number_ok (S : Nat → Addr) (N : Nat) : ∀ x y, (c_lodgeworld_Number N).g x = some y → FCon Go.Proofs.Tryd.prog E S 8 ps_lodgeworld_Number rs_lodgeworld_Number x y := by
  intro x y h
  exact fun_spec E_ok mixed (cs_lodgeworld_Number_ok S N) (f := 8) (fi := ⟨b_lodgeworld_Number, 12, Go.Proofs.Tryd.f8.results.toList⟩) (by kernel_rfl) (ls := []) (.nil) (by kernel_rfl) (ps := ps_lodgeworld_Number) (rs := rs_lodgeworld_Number) (Eq.trans (b := F_lodgeworld_Number N x.1 x.2.1) (by kernel_rfl) h)

/-! lodge/lodgelaw8.matrix -/

abbrev ps_lodgelaw8_matrix : List Ty := [(.int .i64), (.int .i64), (.sl (.int .i64))]
abbrev rs_lodgelaw8_matrix : List Slot := [.ag [.sl (.int .i64), .d .bool, .sl (.int .i64)]]
abbrev cs_lodgelaw8_matrix (N : Nat) : List CallSpec := [c_lodgeworld_Number N]
noncomputable abbrev b_lodgelaw8_matrix : Code := (Go.Proofs.Tryd.f9.body).getD .skip

abbrev h_lodgelaw8_matrix_0 : List Slot := [.data (.int .i64), .data (.int .i64), .data (.sl (.int .i64)), .dead, .dead, .dead, .box [.sl (.int .i64), .d .bool, .sl (.int .i64)], .box [.sl (.int .i64), .d .bool, .sl (.int .i64)], .data (.int .i64), .dead, .dead, .dead, .dead, .dead, .dead, .dead, .dead, .dead, .dead, .dead, .dead, .dead, .dead, .dead, .dead, .dead, .dead, .dead, .dead, .dead, .dead, .dead, .dead, .dead, .dead, .dead, .dead, .dead, .dead, .dead, .dead, .dead, .dead, .dead, .dead, .dead, .dead, .dead]
abbrev e_lodgelaw8_matrix_0 : List (AX × List Slot) := [(AX.exit 0, [.dead, .dead, .dead, .dead, .dead, .dead, .box [.sl (.int .i64), .d .bool, .sl (.int .i64)], .box [.sl (.int .i64), .d .bool, .sl (.int .i64)], .dead, .dead, .dead, .dead, .dead, .dead, .dead, .dead, .dead, .dead, .dead, .dead, .dead, .dead, .dead, .dead, .dead, .dead, .dead, .dead, .dead, .dead, .dead, .dead, .dead, .dead, .dead, .dead, .dead, .dead, .dead, .dead, .dead, .dead, .dead, .dead, .dead, .dead, .dead, .dead])]
def g_lodgelaw8_matrix_0 (N : Nat) : Nat → Int → Int → List Int → (List Int × (Bool × (List Int × Unit))) → (List Int × (Bool × (List Int × Unit))) → Int → Option ((List Int × (Bool × (List Int × Unit))) × ((List Int × (Bool × (List Int × Unit))) × Unit))
  | 0, _, _, _, _, _, _ => none
  | n + 1, m_0, n_1, l_2, t_6, t_7, i_8 =>
    cond (decide (i_8 < (wi64 (m_0 * n_1))))
      (
      cond (decide ((0 : Int) < (Nat.cast (List.length l_2) : Int)))
        (
        cond (decide (@Ne Int (Nat.cast (List.length l_2) : Int) (0 : Int)))
          (
          cond (decide ((0 : Int) ≤ (Int.tmod i_8 (Nat.cast (List.length l_2) : Int))))
            (
            cond (decide ((Int.toNat (Int.tmod i_8 (Nat.cast (List.length l_2) : Int))) < (List.length l_2)))
              (
              Option.bind (F_lodgeworld_Number N (wi64 ((List.getD l_2 (Int.toNat (Int.tmod i_8 (Nat.cast (List.length l_2) : Int))) (0 : Int)) + (wi64 (i_8 * i_8)))) (256 : Int)) fun y1 =>
              cond (decide ((0 : Int) ≤ i_8))
                (
                cond (decide ((Int.toNat i_8) < (List.length (((t_7).2).2).1)))
                  (
                  cond (decide (((0 : Nat) + (Int.toNat i_8)) < (List.length (((t_7).2).2).1)))
                    (
                    cond (decide ((List.length (t_6).1) = (List.length (t_6).1)))
                      (
                      cond (decide ((List.length (((t_6).2).2).1) = (List.length (((t_6).2).2).1)))
                        (
                        cond (decide ((List.length (t_7).1) = (List.length (t_7).1)))
                          (
                          cond (decide ((List.length (((t_7).2).2).1) = (List.length (List.set (((t_7).2).2).1 ((0 : Nat) + (Int.toNat i_8)) (wi64 ((y1).1 - (128 : Int)))))))
                            (
                            (g_lodgelaw8_matrix_0 N n m_0 n_1 l_2 t_6 ((t_7).1, (((t_7).2).1, ((List.set (((t_7).2).2).1 ((0 : Nat) + (Int.toNat i_8)) (wi64 ((y1).1 - (128 : Int)))), ()))) (wi64 (i_8 + (1 : Int)))))
                            (
                            none))
                          (
                          none))
                        (
                        none))
                      (
                      none))
                    (
                    none))
                  (
                  none))
                (
                none))
              (
              none))
            (
            none))
          (
          none))
        (
        cond (decide ((List.length (t_6).1) = (List.length (t_6).1)))
          (
          cond (decide ((List.length (((t_6).2).2).1) = (List.length (((t_6).2).2).1)))
            (
            cond (decide ((List.length (t_7).1) = (List.length (t_7).1)))
              (
              cond (decide ((List.length (((t_7).2).2).1) = (List.length (((t_7).2).2).1)))
                (
                some (t_6, (t_7, ())))
                (
                none))
              (
              none))
            (
            none))
          (
          none)))
      (
      cond (decide ((List.length (t_6).1) = (List.length (t_6).1)))
        (
        cond (decide ((List.length (((t_6).2).2).1) = (List.length (((t_6).2).2).1)))
          (
          cond (decide ((List.length (t_7).1) = (List.length (t_7).1)))
            (
            cond (decide ((List.length (((t_7).2).2).1) = (List.length (((t_7).2).2).1)))
              (
              some (t_6, (t_7, ())))
              (
              none))
            (
            none))
          (
          none))
        (
        none))

def F_lodgelaw8_matrix (N : Nat) (m_0 : Int) (n_1 : Int) (l_2 : List Int) : Option ((List Int × (Bool × (List Int × Unit))) × Unit) :=
  cond (decide ((0 : Int) ≤ (wi64 (m_0 * n_1))))
    (
    cond (decide ((wi64 (m_0 * n_1)) ≤ (wi64 (m_0 * n_1))))
      (
      cond (decide (((wi64 (m_0 * n_1)) * ((Nat.cast 8 : Int) + (1 : Int))) ≤ (Nat.cast Go.Eng.most : Int)))
        (
        cond (decide ((Int.toNat (wi64 (m_0 * n_1))) = (List.length (List.replicate (Int.toNat (wi64 (m_0 * n_1))) (0 : Int)))))
          (
          Option.bind (g_lodgelaw8_matrix_0 N N m_0 n_1 l_2 (([] : List Int), (false, (([] : List Int), ()))) ((m_0 :: (n_1 :: ([] : List Int))), (false, ((List.replicate (Int.toNat (wi64 (m_0 * n_1))) (0 : Int)), ()))) (0 : Int)) fun y0 =>
          cond (decide ((List.length (((y0).2).1).1) = (List.length (((y0).2).1).1)))
            (
            cond (decide ((List.length (((((y0).2).1).2).2).1) = (List.length (((((y0).2).1).2).2).1)))
              (
              some (y0).2)
              (
              none))
            (
            none))
          (
          none))
        (
        none))
      (
      none))
    (
    none)

abbrev c_lodgelaw8_matrix (N : Nat) : CallSpec := ⟨9, ps_lodgelaw8_matrix, rs_lodgelaw8_matrix, fun x => F_lodgelaw8_matrix N x.1 x.2.1 x.2.2.1⟩
abbrev l_lodgelaw8_matrix_0 (N : Nat) : LoopSpec := ⟨0, h_lodgelaw8_matrix_0, e_lodgelaw8_matrix_0, fun x => g_lodgelaw8_matrix_0 N N x.1 x.2.1 x.2.2.1 x.2.2.2.1 x.2.2.2.2.1 x.2.2.2.2.2.1⟩

theorem cs_lodgelaw8_matrix_ok (S : Nat → Addr) (N : Nat) : CallsOK Go.Proofs.Tryd.prog E S (cs_lodgelaw8_matrix N) :=
  .cons (F_lodgeworld_Number_ok S N) (.nil)
noncomputable abbrev b_lodgelaw8_matrix_0 : Code := (loopsOf b_lodgelaw8_matrix).getD 0 .skip
theorem g_lodgelaw8_matrix_0_ok (S : Nat → Addr) (N : Nat) : ∀ n x y, (fun (x : Val (slotsTy h_lodgelaw8_matrix_0)) => g_lodgelaw8_matrix_0 N n x.1 x.2.1 x.2.2.1 x.2.2.2.1 x.2.2.2.2.1 x.2.2.2.2.2.1) x = some y → LoopCon Go.Proofs.Tryd.prog E S b_lodgelaw8_matrix_0 (encSlots h_lodgelaw8_matrix_0 x) (encEx e_lodgelaw8_matrix_0 y).1 (encEx e_lodgelaw8_matrix_0 y).2 :=
  loop_spec E_ok mixed (cs_lodgelaw8_matrix_ok S N) (all := loopsOf b_lodgelaw8_matrix) (ls := []) (.nil) (i := 0) (by kernel_rfl) (inner_of (by kernel_rfl)) (head := h_lodgelaw8_matrix_0) (ex := e_lodgelaw8_matrix_0) (fun n (x : Val (slotsTy h_lodgelaw8_matrix_0)) => g_lodgelaw8_matrix_0 N n x.1 x.2.1 x.2.2.1 x.2.2.2.1 x.2.2.2.2.1 x.2.2.2.2.2.1) (fun _ => rfl) (fun n x => by kernel_rfl)
theorem F_lodgelaw8_matrix_ok (S : Nat → Addr) (N : Nat) : ∀ x y, (c_lodgelaw8_matrix N).g x = some y → FCon Go.Proofs.Tryd.prog E S 9 ps_lodgelaw8_matrix rs_lodgelaw8_matrix x y := by
  intro x y h
  exact fun_spec E_ok mixed (cs_lodgelaw8_matrix_ok S N) (f := 9) (fi := ⟨b_lodgelaw8_matrix, 48, Go.Proofs.Tryd.f9.results.toList⟩) (by kernel_rfl) (ls := [l_lodgelaw8_matrix_0 N]) (.cons (by kernel_rfl) (g_lodgelaw8_matrix_0_ok S N N) (.nil)) (by kernel_rfl) (ps := ps_lodgelaw8_matrix) (rs := rs_lodgelaw8_matrix) (Eq.trans (b := F_lodgelaw8_matrix N x.1 x.2.1 x.2.2.1) (by kernel_rfl) h)

/-! lodge/lodgeref.Ints -/

abbrev ps_lodgeref_Ints : List Ty := [(.sl (.int .i64))]
abbrev rs_lodgeref_Ints : List Slot := [.sl (.int .i64)]
abbrev cs_lodgeref_Ints (N : Nat) : List CallSpec := []
noncomputable abbrev b_lodgeref_Ints : Code := (Go.Proofs.Tryd.f10.body).getD .skip

abbrev h_lodgeref_Ints_0 : List Slot := [.data (.sl (.int .i64)), .dead, .dead, .sl (.int .i64), .data (.int .i64), .dead, .dead, .dead, .dead, .dead, .dead, .dead, .dead, .dead, .dead, .dead, .dead, .dead, .dead, .dead, .dead, .dead]
abbrev e_lodgeref_Ints_0 : List (AX × List Slot) := [(AX.exit 0, [.dead, .dead, .dead, .sl (.int .i64), .dead, .dead, .dead, .dead, .dead, .dead, .dead, .dead, .dead, .dead, .dead, .dead, .dead, .dead, .dead, .dead, .dead, .dead])]
def g_lodgeref_Ints_0 (N : Nat) : Nat → List Int → List Int → Int → Option (List Int × Unit)
  | 0, _, _, _ => none
  | n + 1, l_0, out_3, i_4 =>
    cond (decide (i_4 < (Nat.cast (List.length l_0) : Int)))
      (
      cond (decide ((0 : Int) ≤ i_4))
        (
        cond (decide ((Int.toNat i_4) < (List.length l_0)))
          (
          cond (decide (((0 : Nat) + (List.length out_3)) = (List.length out_3)))
            (
            cond (decide ((((List.length out_3) + 1) * (8 + (1 : Nat))) ≤ Go.Eng.most))
              (
              cond (decide (((List.length out_3) + 1) = (List.length ((List.take (List.length out_3) out_3) ++ ((List.getD l_0 (Int.toNat i_4) (0 : Int)) :: ([] : List Int))))))
                (
                (g_lodgeref_Ints_0 N n l_0 ((List.take (List.length out_3) out_3) ++ ((List.getD l_0 (Int.toNat i_4) (0 : Int)) :: ([] : List Int))) (wi64 (i_4 + (1 : Int)))))
                (
                none))
              (
              none))
            (
            none))
          (
          none))
        (
        none))
      (
      cond (decide ((List.length out_3) = (List.length out_3)))
        (
        some (out_3, ()))
        (
        none))

def F_lodgeref_Ints (N : Nat) (l_0 : List Int) : Option (List Int × Unit) :=
  cond (decide (((Nat.cast (List.length l_0) : Int) * ((Nat.cast 8 : Int) + (1 : Int))) ≤ (Nat.cast Go.Eng.most : Int)))
    (
    Option.bind (g_lodgeref_Ints_0 N N l_0 (List.replicate 0 (0 : Int)) (0 : Int)) fun y0 =>
    cond (decide ((List.length (y0).1) = (List.length (y0).1)))
      (
      some y0)
      (
      none))
    (
    none)

abbrev c_lodgeref_Ints (N : Nat) : CallSpec := ⟨10, ps_lodgeref_Ints, rs_lodgeref_Ints, fun x => F_lodgeref_Ints N x.1⟩
abbrev l_lodgeref_Ints_0 (N : Nat) : LoopSpec := ⟨0, h_lodgeref_Ints_0, e_lodgeref_Ints_0, fun x => g_lodgeref_Ints_0 N N x.1 x.2.1 x.2.2.1⟩

theorem cs_lodgeref_Ints_ok (S : Nat → Addr) (N : Nat) : CallsOK Go.Proofs.Tryd.prog E S (cs_lodgeref_Ints N) :=
  .nil
noncomputable abbrev b_lodgeref_Ints_0 : Code := (loopsOf b_lodgeref_Ints).getD 0 .skip
theorem g_lodgeref_Ints_0_ok (S : Nat → Addr) (N : Nat) : ∀ n x y, (fun (x : Val (slotsTy h_lodgeref_Ints_0)) => g_lodgeref_Ints_0 N n x.1 x.2.1 x.2.2.1) x = some y → LoopCon Go.Proofs.Tryd.prog E S b_lodgeref_Ints_0 (encSlots h_lodgeref_Ints_0 x) (encEx e_lodgeref_Ints_0 y).1 (encEx e_lodgeref_Ints_0 y).2 :=
  loop_spec E_ok mixed (cs_lodgeref_Ints_ok S N) (all := loopsOf b_lodgeref_Ints) (ls := []) (.nil) (i := 0) (by kernel_rfl) (inner_of (by kernel_rfl)) (head := h_lodgeref_Ints_0) (ex := e_lodgeref_Ints_0) (fun n (x : Val (slotsTy h_lodgeref_Ints_0)) => g_lodgeref_Ints_0 N n x.1 x.2.1 x.2.2.1) (fun _ => rfl) (fun n x => by kernel_rfl)
theorem F_lodgeref_Ints_ok (S : Nat → Addr) (N : Nat) : ∀ x y, (c_lodgeref_Ints N).g x = some y → FCon Go.Proofs.Tryd.prog E S 10 ps_lodgeref_Ints rs_lodgeref_Ints x y := by
  intro x y h
  exact fun_spec E_ok mixed (cs_lodgeref_Ints_ok S N) (f := 10) (fi := ⟨b_lodgeref_Ints, 22, Go.Proofs.Tryd.f10.results.toList⟩) (by kernel_rfl) (ls := [l_lodgeref_Ints_0 N]) (.cons (by kernel_rfl) (g_lodgeref_Ints_0_ok S N N) (.nil)) (by kernel_rfl) (ps := ps_lodgeref_Ints) (rs := rs_lodgeref_Ints) (Eq.trans (b := F_lodgeref_Ints N x.1) (by kernel_rfl) h)

/-! lodge/lodgelaw8.MatAdds -/

abbrev ps_lodgelaw8_MatAdds : List Ty := [(.int .i64), (.int .i64), (.int .i64), (.sl (.int .i64)), (.int .i64), (.int .i64)]
abbrev rs_lodgelaw8_MatAdds : List Slot := [.data .bool]
abbrev cs_lodgelaw8_MatAdds (N : Nat) : List CallSpec := [c_mat_Mul N, c_lodgeref_SameInts N, c_lodgelaw8_first N, c_lodgeworld_Number N, c_lodgelaw8_matrix N, c_lodgeref_Ints N]
noncomputable abbrev b_lodgelaw8_MatAdds : Code := (Go.Proofs.Tryd.f3.body).getD .skip

def F_lodgelaw8_MatAdds (N : Nat) (m_0 : Int) (k_1 : Int) (n_2 : Int) (l_3 : List Int) (za_4 : Int) (zb_5 : Int) : Option (Bool × Unit) :=
  Option.bind (F_lodgelaw8_first N) fun y0 =>
  cond (Bool.not (y0).1)
    (
    some (false, ()))
    (
    cond (decide ((40 : Int) < (Nat.cast (List.length l_3) : Int)))
      (
      some y0)
      (
      cond (Bool.not (y0).1)
        (
        some y0)
        (
        Option.bind (F_lodgeworld_Number N m_0 (8 : Int)) fun y1 =>
        Option.bind (F_lodgeworld_Number N k_1 (8 : Int)) fun y2 =>
        Option.bind (F_lodgeworld_Number N n_2 (8 : Int)) fun y3 =>
        Option.bind (F_lodgeworld_Number N za_4 (256 : Int)) fun y4 =>
        Option.bind (F_lodgeworld_Number N zb_5 (256 : Int)) fun y5 =>
        Option.bind (F_lodgelaw8_matrix N (wi64 ((y1).1 + (1 : Int))) (wi64 ((y2).1 + (1 : Int))) l_3) fun y6 =>
        Option.bind (F_lodgeref_Ints N l_3) fun y7 =>
        cond (decide (((0 : Nat) + (List.length (y7).1)) = (List.length (y7).1)))
          (
          cond (decide ((((List.length (y7).1) + 1) * (8 + (1 : Nat))) ≤ Go.Eng.most))
            (
            cond (decide (((0 : Nat) + ((List.length (y7).1) + 1)) ≤ (List.length ((List.take (List.length (y7).1) (y7).1) ++ ((11 : Int) :: ([] : List Int))))))
              (
              Option.bind (F_lodgelaw8_matrix N (wi64 ((y2).1 + (1 : Int))) (wi64 ((y3).1 + (1 : Int))) (List.take ((List.length (y7).1) + 1) ((List.take (List.length (y7).1) (y7).1) ++ ((11 : Int) :: ([] : List Int))))) fun y8 =>
              Option.bind (F_lodgeref_Ints N l_3) fun y9 =>
              cond (decide (((0 : Nat) + (List.length (y9).1)) = (List.length (y9).1)))
                (
                cond (decide ((((List.length (y9).1) + 1) * (8 + (1 : Nat))) ≤ Go.Eng.most))
                  (
                  cond (decide (((0 : Nat) + ((List.length (y9).1) + 1)) ≤ (List.length ((List.take (List.length (y9).1) (y9).1) ++ ((17 : Int) :: ([] : List Int))))))
                    (
                    Option.bind (F_lodgelaw8_matrix N (1 : Int) (wi64 ((y2).1 + (1 : Int))) (List.take ((List.length (y9).1) + 1) ((List.take (List.length (y9).1) (y9).1) ++ ((17 : Int) :: ([] : List Int))))) fun y10 =>
                    Option.bind (F_lodgelaw8_matrix N (wi64 ((wi64 ((y1).1 + (1 : Int))) + (1 : Int))) (wi64 ((y2).1 + (1 : Int))) ([] : List Int)) fun y11 =>
                    cond (decide (((0 : Nat) + (List.length ((((y10).1).2).2).1)) ≤ (List.length ((((y10).1).2).2).1)))
                      (
                      cond (decide (((0 : Nat) + (List.length ((((y11).1).2).2).1)) ≤ (List.length ((((y11).1).2).2).1)))
                        (
                        cond (decide ((0 : Int) ≤ (wi64 ((y2).1 + (1 : Int)))))
                          (
                          cond (decide ((Int.toNat (wi64 ((y2).1 + (1 : Int)))) ≤ (List.length ((((y11).1).2).2).1)))
                            (
                            cond (decide ((List.length ((((y11).1).2).2).1) ≤ (List.length ((((y11).1).2).2).1)))
                              (
                              cond (decide (((0 : Nat) + (List.length ((((y6).1).2).2).1)) ≤ (List.length ((((y6).1).2).2).1)))
                                (
                                cond (decide ((((0 : Nat) + (Int.toNat (wi64 ((y2).1 + (1 : Int))))) + ((List.length ((((y11).1).2).2).1) - (Int.toNat (wi64 ((y2).1 + (1 : Int)))))) ≤ (List.length (((List.take (0 : Nat) ((((y11).1).2).2).1) ++ (List.take (@Min.min Nat instMinNat (List.length (List.take (List.length ((((y10).1).2).2).1) ((((y10).1).2).2).1)) (List.length ((((y11).1).2).2).1)) (List.take (List.length ((((y10).1).2).2).1) ((((y10).1).2).2).1))) ++ (List.drop ((0 : Nat) + (@Min.min Nat instMinNat (List.length (List.take (List.length ((((y10).1).2).2).1) ((((y10).1).2).2).1)) (List.length ((((y11).1).2).2).1))) ((((y11).1).2).2).1)))))
                                  (
                                  cond (decide (((0 : Nat) + (List.length ((y6).1).1)) ≤ (List.length ((y6).1).1)))
                                    (
                                    cond (decide (((0 : Nat) + (List.length ((((y6).1).2).2).1)) ≤ (List.length ((((y6).1).2).2).1)))
                                      (
                                      cond (decide (((0 : Nat) + (List.length ((y8).1).1)) ≤ (List.length ((y8).1).1)))
                                        (
                                        cond (decide (((0 : Nat) + (List.length ((((y8).1).2).2).1)) ≤ (List.length ((((y8).1).2).2).1)))
                                          (
                                          Option.bind (F_mat_Mul N (((List.take (List.length ((y6).1).1) ((y6).1).1), (((y6).1).2).1), (List.take (List.length ((((y6).1).2).2).1) ((((y6).1).2).2).1)) (((List.take (List.length ((y8).1).1) ((y8).1).1), (((y8).1).2).1), (List.take (List.length ((((y8).1).2).2).1) ((((y8).1).2).2).1)) (wi64 ((y4).1 - (128 : Int))) (wi64 ((y5).1 - (128 : Int)))) fun y12 =>
                                          cond (decide (((0 : Nat) + (List.length ((y10).1).1)) ≤ (List.length ((y10).1).1)))
                                            (
                                            cond (decide (((0 : Nat) + (List.length ((((y10).1).2).2).1)) ≤ (List.length ((((y10).1).2).2).1)))
                                              (
                                              cond (decide (((0 : Nat) + (List.length ((y8).1).1)) ≤ (List.length ((y8).1).1)))
                                                (
                                                cond (decide (((0 : Nat) + (List.length ((((y8).1).2).2).1)) ≤ (List.length ((((y8).1).2).2).1)))
                                                  (
                                                  Option.bind (F_mat_Mul N (((List.take (List.length ((y10).1).1) ((y10).1).1), (((y10).1).2).1), (List.take (List.length ((((y10).1).2).2).1) ((((y10).1).2).2).1)) (((List.take (List.length ((y8).1).1) ((y8).1).1), (((y8).1).2).1), (List.take (List.length ((((y8).1).2).2).1) ((((y8).1).2).2).1)) (wi64 ((y4).1 - (128 : Int))) (wi64 ((y5).1 - (128 : Int)))) fun y13 =>
                                                  cond (decide (((0 : Nat) + (List.length ((y11).1).1)) ≤ (List.length ((y11).1).1)))
                                                    (
                                                    cond (decide (((0 : Nat) + (List.length ((((y11).1).2).2).1)) ≤ (List.length (((List.take ((0 : Nat) + (Int.toNat (wi64 ((y2).1 + (1 : Int))))) (((List.take (0 : Nat) ((((y11).1).2).2).1) ++ (List.take (@Min.min Nat instMinNat (List.length (List.take (List.length ((((y10).1).2).2).1) ((((y10).1).2).2).1)) (List.length ((((y11).1).2).2).1)) (List.take (List.length ((((y10).1).2).2).1) ((((y10).1).2).2).1))) ++ (List.drop ((0 : Nat) + (@Min.min Nat instMinNat (List.length (List.take (List.length ((((y10).1).2).2).1) ((((y10).1).2).2).1)) (List.length ((((y11).1).2).2).1))) ((((y11).1).2).2).1))) ++ (List.take (@Min.min Nat instMinNat (List.length (List.take (List.length ((((y6).1).2).2).1) ((((y6).1).2).2).1)) ((List.length ((((y11).1).2).2).1) - (Int.toNat (wi64 ((y2).1 + (1 : Int)))))) (List.take (List.length ((((y6).1).2).2).1) ((((y6).1).2).2).1))) ++ (List.drop (((0 : Nat) + (Int.toNat (wi64 ((y2).1 + (1 : Int))))) + (@Min.min Nat instMinNat (List.length (List.take (List.length ((((y6).1).2).2).1) ((((y6).1).2).2).1)) ((List.length ((((y11).1).2).2).1) - (Int.toNat (wi64 ((y2).1 + (1 : Int))))))) (((List.take (0 : Nat) ((((y11).1).2).2).1) ++ (List.take (@Min.min Nat instMinNat (List.length (List.take (List.length ((((y10).1).2).2).1) ((((y10).1).2).2).1)) (List.length ((((y11).1).2).2).1)) (List.take (List.length ((((y10).1).2).2).1) ((((y10).1).2).2).1))) ++ (List.drop ((0 : Nat) + (@Min.min Nat instMinNat (List.length (List.take (List.length ((((y10).1).2).2).1) ((((y10).1).2).2).1)) (List.length ((((y11).1).2).2).1))) ((((y11).1).2).2).1)))))))
                                                      (
                                                      cond (decide (((0 : Nat) + (List.length ((y8).1).1)) ≤ (List.length ((y8).1).1)))
                                                        (
                                                        cond (decide (((0 : Nat) + (List.length ((((y8).1).2).2).1)) ≤ (List.length ((((y8).1).2).2).1)))
                                                          (
                                                          Option.bind (F_mat_Mul N (((List.take (List.length ((y11).1).1) ((y11).1).1), (((y11).1).2).1), (List.take (List.length ((((y11).1).2).2).1) (((List.take ((0 : Nat) + (Int.toNat (wi64 ((y2).1 + (1 : Int))))) (((List.take (0 : Nat) ((((y11).1).2).2).1) ++ (List.take (@Min.min Nat instMinNat (List.length (List.take (List.length ((((y10).1).2).2).1) ((((y10).1).2).2).1)) (List.length ((((y11).1).2).2).1)) (List.take (List.length ((((y10).1).2).2).1) ((((y10).1).2).2).1))) ++ (List.drop ((0 : Nat) + (@Min.min Nat instMinNat (List.length (List.take (List.length ((((y10).1).2).2).1) ((((y10).1).2).2).1)) (List.length ((((y11).1).2).2).1))) ((((y11).1).2).2).1))) ++ (List.take (@Min.min Nat instMinNat (List.length (List.take (List.length ((((y6).1).2).2).1) ((((y6).1).2).2).1)) ((List.length ((((y11).1).2).2).1) - (Int.toNat (wi64 ((y2).1 + (1 : Int)))))) (List.take (List.length ((((y6).1).2).2).1) ((((y6).1).2).2).1))) ++ (List.drop (((0 : Nat) + (Int.toNat (wi64 ((y2).1 + (1 : Int))))) + (@Min.min Nat instMinNat (List.length (List.take (List.length ((((y6).1).2).2).1) ((((y6).1).2).2).1)) ((List.length ((((y11).1).2).2).1) - (Int.toNat (wi64 ((y2).1 + (1 : Int))))))) (((List.take (0 : Nat) ((((y11).1).2).2).1) ++ (List.take (@Min.min Nat instMinNat (List.length (List.take (List.length ((((y10).1).2).2).1) ((((y10).1).2).2).1)) (List.length ((((y11).1).2).2).1)) (List.take (List.length ((((y10).1).2).2).1) ((((y10).1).2).2).1))) ++ (List.drop ((0 : Nat) + (@Min.min Nat instMinNat (List.length (List.take (List.length ((((y10).1).2).2).1) ((((y10).1).2).2).1)) (List.length ((((y11).1).2).2).1))) ((((y11).1).2).2).1)))))) (((List.take (List.length ((y8).1).1) ((y8).1).1), (((y8).1).2).1), (List.take (List.length ((((y8).1).2).2).1) ((((y8).1).2).2).1)) (wi64 ((y4).1 - (128 : Int))) (wi64 ((y5).1 - (128 : Int)))) fun y14 =>
                                                          cond (Bool.not (Go.Eng.Er.isNil ((y12).2).1))
                                                            (
                                                            some (false, ()))
                                                            (
                                                            cond (Bool.not (Go.Eng.Er.isNil ((y13).2).1))
                                                              (
                                                              some (false, ()))
                                                              (
                                                              cond (Bool.not (Go.Eng.Er.isNil ((y14).2).1))
                                                                (
                                                                some (false, ()))
                                                                (
                                                                cond (decide ((0 : Int) ≤ (wi64 ((y3).1 + (1 : Int)))))
                                                                  (
                                                                  cond (decide ((Int.toNat (wi64 ((y3).1 + (1 : Int)))) ≤ (List.length ((((y14).1).2).2).1)))
                                                                    (
                                                                    cond (decide ((((0 : Nat) + (0 : Nat)) + ((Int.toNat (wi64 ((y3).1 + (1 : Int)))) - (0 : Nat))) ≤ (List.length ((((y14).1).2).2).1)))
                                                                      (
                                                                      cond (decide (((0 : Nat) + (List.length ((((y13).1).2).2).1)) ≤ (List.length ((((y13).1).2).2).1)))
                                                                        (
                                                                        Option.bind (F_lodgeref_SameInts N (List.take ((Int.toNat (wi64 ((y3).1 + (1 : Int)))) - (0 : Nat)) (List.drop ((0 : Nat) + (0 : Nat)) ((((y14).1).2).2).1)) (List.take (List.length ((((y13).1).2).2).1) ((((y13).1).2).2).1)) fun y15 =>
                                                                        cond (y15).1
                                                                          (
                                                                          cond (decide ((0 : Int) ≤ (wi64 ((y3).1 + (1 : Int)))))
                                                                            (
                                                                            cond (decide ((Int.toNat (wi64 ((y3).1 + (1 : Int)))) ≤ (List.length ((((y14).1).2).2).1)))
                                                                              (
                                                                              cond (decide ((List.length ((((y14).1).2).2).1) ≤ (List.length ((((y14).1).2).2).1)))
                                                                                (
                                                                                cond (decide ((((0 : Nat) + (Int.toNat (wi64 ((y3).1 + (1 : Int))))) + ((List.length ((((y14).1).2).2).1) - (Int.toNat (wi64 ((y3).1 + (1 : Int)))))) ≤ (List.length ((((y14).1).2).2).1)))
                                                                                  (
                                                                                  cond (decide (((0 : Nat) + (List.length ((((y12).1).2).2).1)) ≤ (List.length ((((y12).1).2).2).1)))
                                                                                    (
                                                                                    Option.bind (F_lodgeref_SameInts N (List.take ((List.length ((((y14).1).2).2).1) - (Int.toNat (wi64 ((y3).1 + (1 : Int))))) (List.drop ((0 : Nat) + (Int.toNat (wi64 ((y3).1 + (1 : Int))))) ((((y14).1).2).2).1)) (List.take (List.length ((((y12).1).2).2).1) ((((y12).1).2).2).1)) fun y16 =>
                                                                                    some y16)
                                                                                    (
                                                                                    none))
                                                                                  (
                                                                                  none))
                                                                                (
                                                                                none))
                                                                              (
                                                                              none))
                                                                            (
                                                                            none))
                                                                          (
                                                                          some (false, ())))
                                                                        (
                                                                        none))
                                                                      (
                                                                      none))
                                                                    (
                                                                    none))
                                                                  (
                                                                  none)))))
                                                          (
                                                          none))
                                                        (
                                                        none))
                                                      (
                                                      none))
                                                    (
                                                    none))
                                                  (
                                                  none))
                                                (
                                                none))
                                              (
                                              none))
                                            (
                                            none))
                                          (
                                          none))
                                        (
                                        none))
                                      (
                                      none))
                                    (
                                    none))
                                  (
                                  none))
                                (
                                none))
                              (
                              none))
                            (
                            none))
                          (
                          none))
                        (
                        none))
                      (
                      none))
                    (
                    none))
                  (
                  none))
                (
                none))
              (
              none))
            (
            none))
          (
          none))))

abbrev c_lodgelaw8_MatAdds (N : Nat) : CallSpec := ⟨3, ps_lodgelaw8_MatAdds, rs_lodgelaw8_MatAdds, fun x => F_lodgelaw8_MatAdds N x.1 x.2.1 x.2.2.1 x.2.2.2.1 x.2.2.2.2.1 x.2.2.2.2.2.1⟩

theorem cs_lodgelaw8_MatAdds_ok (S : Nat → Addr) (N : Nat) : CallsOK Go.Proofs.Tryd.prog E S (cs_lodgelaw8_MatAdds N) :=
  .cons (F_mat_Mul_ok S N) (.cons (F_lodgeref_SameInts_ok S N) (.cons (F_lodgelaw8_first_ok S N) (.cons (F_lodgeworld_Number_ok S N) (.cons (F_lodgelaw8_matrix_ok S N) (.cons (F_lodgeref_Ints_ok S N) (.nil))))))
theorem F_lodgelaw8_MatAdds_ok (S : Nat → Addr) (N : Nat) : ∀ x y, (c_lodgelaw8_MatAdds N).g x = some y → FCon Go.Proofs.Tryd.prog E S 3 ps_lodgelaw8_MatAdds rs_lodgelaw8_MatAdds x y := by
  intro x y h
  exact fun_spec E_ok mixed (cs_lodgelaw8_MatAdds_ok S N) (f := 3) (fi := ⟨b_lodgelaw8_MatAdds, 133, Go.Proofs.Tryd.f3.results.toList⟩) (by kernel_rfl) (ls := []) (.nil) (by kernel_rfl) (ps := ps_lodgelaw8_MatAdds) (rs := rs_lodgelaw8_MatAdds) (Eq.trans (b := F_lodgelaw8_MatAdds N x.1 x.2.1 x.2.2.1 x.2.2.2.1 x.2.2.2.2.1 x.2.2.2.2.2.1) (by kernel_rfl) h)

/-! lodge/mat.Cell$1$1 -/

abbrev ps_mat_Cell_1_1 : List Ty := [(.int .i64), (.ref (.st (.pair (.st (.pair (.sl (.int .i64)) .bool)) (.sl (.int .i64)))))]
abbrev rs_mat_Cell_1_1 : List Slot := [.data (.int .i64)]
abbrev cs_mat_Cell_1_1 (N : Nat) : List CallSpec := []
noncomputable abbrev b_mat_Cell_1_1 : Code := (Go.Proofs.Tryd.f29.body).getD .skip

def F_mat_Cell_1_1 (N : Nat) (i_0 : Int) (t_1 : ((List Int × Bool) × List Int)) : Option (Int × Unit) :=
  cond (decide ((0 : Int) ≤ i_0))
    (
    cond (decide ((Int.toNat i_0) < (List.length (t_1).2)))
      (
      some ((List.getD (t_1).2 (Int.toNat i_0) (0 : Int)), ()))
      (
      none))
    (
    none)

abbrev c_mat_Cell_1_1 (N : Nat) : CallSpec := ⟨29, ps_mat_Cell_1_1, rs_mat_Cell_1_1, fun x => F_mat_Cell_1_1 N x.1 x.2.1⟩

theorem cs_mat_Cell_1_1_ok (S : Nat → Addr) (N : Nat) : CallsOK Go.Proofs.Tryd.prog E S (cs_mat_Cell_1_1 N) :=
  .nil
theorem F_mat_Cell_1_1_ok (S : Nat → Addr) (N : Nat) : ∀ x y, (c_mat_Cell_1_1 N).g x = some y → FCon Go.Proofs.Tryd.prog E S 29 ps_mat_Cell_1_1 rs_mat_Cell_1_1 x y := by
  intro x y h
  exact fun_spec E_ok mixed (cs_mat_Cell_1_1_ok S N) (f := 29) (fi := ⟨b_mat_Cell_1_1, 9, Go.Proofs.Tryd.f29.results.toList⟩) (by kernel_rfl) (ls := []) (.nil) (by kernel_rfl) (ps := ps_mat_Cell_1_1) (rs := rs_mat_Cell_1_1) (Eq.trans (b := F_mat_Cell_1_1 N x.1 x.2.1) (by kernel_rfl) h)

/-! lodge/mat.Cell$1 -/

abbrev ps_mat_Cell_1 : List Ty := [(.st (.pair (.st (.pair (.sl (.int .i64)) .bool)) (.sl (.int .i64))))]
abbrev rs_mat_Cell_1 : List Slot := [.data (.clo 29 (.ref (.st (.pair (.st (.pair (.sl (.int .i64)) .bool)) (.sl (.int .i64))))))]
abbrev cs_mat_Cell_1 (N : Nat) : List CallSpec := [c_mat_Cell_1_1 N]
noncomputable abbrev b_mat_Cell_1 : Code := (Go.Proofs.Tryd.f28.body).getD .skip

def F_mat_Cell_1 (N : Nat) (t_0 : ((List Int × Bool) × List Int)) : Option (((List Int × Bool) × List Int) × Unit) :=
  some (t_0, ())

abbrev c_mat_Cell_1 (N : Nat) : CallSpec := ⟨28, ps_mat_Cell_1, rs_mat_Cell_1, fun x => F_mat_Cell_1 N x.1⟩

theorem cs_mat_Cell_1_ok (S : Nat → Addr) (N : Nat) : CallsOK Go.Proofs.Tryd.prog E S (cs_mat_Cell_1 N) :=
  .cons (F_mat_Cell_1_1_ok S N) (.nil)
theorem F_mat_Cell_1_ok (S : Nat → Addr) (N : Nat) : ∀ x y, (c_mat_Cell_1 N).g x = some y → FCon Go.Proofs.Tryd.prog E S 28 ps_mat_Cell_1 rs_mat_Cell_1 x y := by
  intro x y h
  exact fun_spec E_ok mixed (cs_mat_Cell_1_ok S N) (f := 28) (fi := ⟨b_mat_Cell_1, 4, Go.Proofs.Tryd.f28.results.toList⟩) (by kernel_rfl) (ls := []) (.nil) (by kernel_rfl) (ps := ps_mat_Cell_1) (rs := rs_mat_Cell_1) (Eq.trans (b := F_mat_Cell_1 N x.1) (by kernel_rfl) h)

/-! lodge/mat.At -/

abbrev ps_mat_At : List Ty := [(.int .i64), (.int .i64), (.clo 29 (.ref (.st (.pair (.st (.pair (.sl (.int .i64)) .bool)) (.sl (.int .i64)))))), (.clo 29 (.ref (.st (.pair (.st (.pair (.sl (.int .i64)) .bool)) (.sl (.int .i64)))))), (.int .i64), (.int .i64), (.int .i64)]
abbrev rs_mat_At : List Slot := [.data (.int .i64)]
abbrev cs_mat_At (N : Nat) : List CallSpec := [c_tens_Wide N, c_mat_Cell_1_1 N]
noncomputable abbrev b_mat_At : Code := (Go.Proofs.Tryd.f30.body).getD .skip

abbrev h_mat_At_0 : List Slot := [.data (.int .i64), .data (.int .i64), .data (.clo 29 (.ref (.st (.pair (.st (.pair (.sl (.int .i64)) .bool)) (.sl (.int .i64)))))), .data (.clo 29 (.ref (.st (.pair (.st (.pair (.sl (.int .i64)) .bool)) (.sl (.int .i64)))))), .data (.int .i64), .data (.int .i64), .dead, .dead, .dead, .dead, .dead, .dead, .dead, .dead, .dead, .data (.int .i64), .data (.int .i64), .data (.int .i64), .dead, .dead, .dead, .dead, .dead, .dead, .dead, .data (.int .i64), .data (.int .i64), .dead, .dead, .dead, .dead, .dead, .dead, .dead, .dead, .dead, .dead, .dead, .dead, .dead, .dead, .dead, .dead, .dead, .dead, .dead, .dead, .dead, .dead, .dead, .dead, .dead, .dead]
abbrev e_mat_At_0 : List (AX × List Slot) := [(AX.exit 0, [.dead, .dead, .dead, .dead, .dead, .dead, .dead, .dead, .dead, .dead, .dead, .dead, .dead, .dead, .dead, .data (.int .i64), .dead, .dead, .dead, .dead, .dead, .dead, .dead, .dead, .dead, .dead, .dead, .dead, .dead, .dead, .dead, .dead, .dead, .dead, .dead, .dead, .dead, .dead, .dead, .dead, .dead, .dead, .dead, .dead, .dead, .dead, .dead, .dead, .dead, .dead, .dead, .dead, .dead])]
def g_mat_At_0 (N : Nat) : Nat → Int → Int → ((List Int × Bool) × List Int) → ((List Int × Bool) × List Int) → Int → Int → Int → Int → Int → Int → Int → Option (Int × Unit)
  | 0, _, _, _, _, _, _, _, _, _, _, _ => none
  | n + 1, k_0, n_1, a_2, b_3, za_4, zb_5, s_15, row_16, col_17, t_25, t_26 =>
    cond (decide (t_26 < t_25))
      (
      Option.bind (F_mat_Cell_1_1 N (wi64 ((wi64 (row_16 * k_0)) + t_26)) a_2) fun y2 =>
      Option.bind (F_mat_Cell_1_1 N (wi64 ((wi64 (t_26 * n_1)) + col_17)) b_3) fun y3 =>
      (g_mat_At_0 N n k_0 n_1 a_2 b_3 za_4 zb_5 (wi64 (s_15 + (wi64 ((wi64 ((y2).1 - za_4)) * (wi64 ((y3).1 - zb_5)))))) row_16 col_17 t_25 (wi64 (t_26 + (1 : Int)))))
      (
      some (s_15, ()))

def F_mat_At (N : Nat) (k_0 : Int) (n_1 : Int) (a_2 : ((List Int × Bool) × List Int)) (b_3 : ((List Int × Bool) × List Int)) (za_4 : Int) (zb_5 : Int) (i_6 : Int) : Option (Int × Unit) :=
  cond (decide (@Ne Int n_1 (0 : Int)))
    (
    cond (decide (@Ne Int n_1 (0 : Int)))
      (
      Option.bind (g_mat_At_0 N N k_0 n_1 a_2 b_3 za_4 zb_5 (0 : Int) (wi64 (Int.tdiv i_6 n_1)) (Int.tmod i_6 n_1) k_0 (0 : Int)) fun y0 =>
      Option.bind (F_tens_Wide N (y0).1) fun y1 =>
      some y1)
      (
      none))
    (
    none)

abbrev c_mat_At (N : Nat) : CallSpec := ⟨30, ps_mat_At, rs_mat_At, fun x => F_mat_At N x.1 x.2.1 x.2.2.1 x.2.2.2.1 x.2.2.2.2.1 x.2.2.2.2.2.1 x.2.2.2.2.2.2.1⟩
abbrev l_mat_At_0 (N : Nat) : LoopSpec := ⟨0, h_mat_At_0, e_mat_At_0, fun x => g_mat_At_0 N N x.1 x.2.1 x.2.2.1 x.2.2.2.1 x.2.2.2.2.1 x.2.2.2.2.2.1 x.2.2.2.2.2.2.1 x.2.2.2.2.2.2.2.1 x.2.2.2.2.2.2.2.2.1 x.2.2.2.2.2.2.2.2.2.1 x.2.2.2.2.2.2.2.2.2.2.1⟩

theorem cs_mat_At_ok (S : Nat → Addr) (N : Nat) : CallsOK Go.Proofs.Tryd.prog E S (cs_mat_At N) :=
  .cons (F_tens_Wide_ok S N) (.cons (F_mat_Cell_1_1_ok S N) (.nil))
noncomputable abbrev b_mat_At_0 : Code := (loopsOf b_mat_At).getD 0 .skip
theorem g_mat_At_0_ok (S : Nat → Addr) (N : Nat) : ∀ n x y, (fun (x : Val (slotsTy h_mat_At_0)) => g_mat_At_0 N n x.1 x.2.1 x.2.2.1 x.2.2.2.1 x.2.2.2.2.1 x.2.2.2.2.2.1 x.2.2.2.2.2.2.1 x.2.2.2.2.2.2.2.1 x.2.2.2.2.2.2.2.2.1 x.2.2.2.2.2.2.2.2.2.1 x.2.2.2.2.2.2.2.2.2.2.1) x = some y → LoopCon Go.Proofs.Tryd.prog E S b_mat_At_0 (encSlots h_mat_At_0 x) (encEx e_mat_At_0 y).1 (encEx e_mat_At_0 y).2 :=
  loop_spec E_ok mixed (cs_mat_At_ok S N) (all := loopsOf b_mat_At) (ls := []) (.nil) (i := 0) (by kernel_rfl) (inner_of (by kernel_rfl)) (head := h_mat_At_0) (ex := e_mat_At_0) (fun n (x : Val (slotsTy h_mat_At_0)) => g_mat_At_0 N n x.1 x.2.1 x.2.2.1 x.2.2.2.1 x.2.2.2.2.1 x.2.2.2.2.2.1 x.2.2.2.2.2.2.1 x.2.2.2.2.2.2.2.1 x.2.2.2.2.2.2.2.2.1 x.2.2.2.2.2.2.2.2.2.1 x.2.2.2.2.2.2.2.2.2.2.1) (fun _ => rfl) (fun n x => by kernel_rfl)
theorem F_mat_At_ok (S : Nat → Addr) (N : Nat) : ∀ x y, (c_mat_At N).g x = some y → FCon Go.Proofs.Tryd.prog E S 30 ps_mat_At rs_mat_At x y := by
  intro x y h
  exact fun_spec E_ok mixed (cs_mat_At_ok S N) (f := 30) (fi := ⟨b_mat_At, 53, Go.Proofs.Tryd.f30.results.toList⟩) (by kernel_rfl) (ls := [l_mat_At_0 N]) (.cons (by kernel_rfl) (g_mat_At_0_ok S N N) (.nil)) (by kernel_rfl) (ps := ps_mat_At) (rs := rs_mat_At) (Eq.trans (b := F_mat_At N x.1 x.2.1 x.2.2.1 x.2.2.2.1 x.2.2.2.2.1 x.2.2.2.2.2.1 x.2.2.2.2.2.2.1) (by kernel_rfl) h)

/-! lodge/mat.Cell -/

abbrev ps_mat_Cell : List Ty := [(.st (.pair (.st (.pair (.sl (.int .i64)) .bool)) (.sl (.int .i64)))), (.st (.pair (.st (.pair (.sl (.int .i64)) .bool)) (.sl (.int .i64)))), (.int .i64), (.int .i64), (.int .i64)]
abbrev rs_mat_Cell : List Slot := [.data (.int .i64)]
abbrev cs_mat_Cell (N : Nat) : List CallSpec := [c_shape_Elems N, c_mat_result N, c_mat_Cell_1 N, c_mat_At N]
noncomputable abbrev b_mat_Cell : Code := (Go.Proofs.Tryd.f13.body).getD .skip

def F_mat_Cell (N : Nat) (a_0 : ((List Int × Bool) × List Int)) (b_1 : ((List Int × Bool) × List Int)) (za_2 : Int) (zb_3 : Int) (i_4 : Int) : Option (Int × Unit) :=
  Option.bind (F_mat_result N a_0 b_1 za_2 zb_3) fun y0 =>
  cond (Bool.not (Go.Eng.Er.isNil ((y0).2).1))
    (
    some ((0 : Int), ()))
    (
    cond (decide (i_4 < (0 : Int)))
      (
      some ((0 : Int), ()))
      (
      Option.bind (F_shape_Elems N ((y0).1).1) fun y1 =>
      cond (decide ((y1).1 ≤ i_4))
        (
        some ((0 : Int), ()))
        (
        cond (decide (1 < (List.length ((a_0).1).1)))
          (
          cond (decide (1 < (List.length ((b_1).1).1)))
            (
            Option.bind (F_mat_Cell_1 N a_0) fun y2 =>
            Option.bind (F_mat_Cell_1 N b_1) fun y3 =>
            Option.bind (F_mat_At N (List.getD ((a_0).1).1 1 (0 : Int)) (List.getD ((b_1).1).1 1 (0 : Int)) (y2).1 (y3).1 za_2 zb_3 i_4) fun y4 =>
            some y4)
            (
            none))
          (
          none))))

abbrev c_mat_Cell (N : Nat) : CallSpec := ⟨13, ps_mat_Cell, rs_mat_Cell, fun x => F_mat_Cell N x.1 x.2.1 x.2.2.1 x.2.2.2.1 x.2.2.2.2.1⟩

theorem cs_mat_Cell_ok (S : Nat → Addr) (N : Nat) : CallsOK Go.Proofs.Tryd.prog E S (cs_mat_Cell N) :=
  .cons (F_shape_Elems_ok S N) (.cons (F_mat_result_ok S N) (.cons (F_mat_Cell_1_ok S N) (.cons (F_mat_At_ok S N) (.nil))))
theorem F_mat_Cell_ok (S : Nat → Addr) (N : Nat) : ∀ x y, (c_mat_Cell N).g x = some y → FCon Go.Proofs.Tryd.prog E S 13 ps_mat_Cell rs_mat_Cell x y := by
  intro x y h
  exact fun_spec E_ok mixed (cs_mat_Cell_ok S N) (f := 13) (fi := ⟨b_mat_Cell, 55, Go.Proofs.Tryd.f13.results.toList⟩) (by kernel_rfl) (ls := []) (.nil) (by kernel_rfl) (ps := ps_mat_Cell) (rs := rs_mat_Cell) (Eq.trans (b := F_mat_Cell N x.1 x.2.1 x.2.2.1 x.2.2.2.1 x.2.2.2.2.1) (by kernel_rfl) h)

/-! lodge/lodgelaw8.MatOnes -/

abbrev ps_lodgelaw8_MatOnes : List Ty := [(.int .i64), (.int .i64), (.sl (.int .i64)), (.int .i64)]
abbrev rs_lodgelaw8_MatOnes : List Slot := [.data .bool]
abbrev cs_lodgelaw8_MatOnes (N : Nat) : List CallSpec := [c_mat_Mul N, c_lodgelaw8_first N, c_lodgeworld_Number N, c_lodgelaw8_matrix N, c_mat_Cell N]
noncomputable abbrev b_lodgelaw8_MatOnes : Code := (Go.Proofs.Tryd.f4.body).getD .skip

abbrev h_lodgelaw8_MatOnes_0 : List Slot := [.dead, .dead, .dead, .data (.int .i64), .dead, .dead, .dead, .dead, .dead, .dead, .box [.sl (.int .i64), .d .bool, .sl (.int .i64)], .data (.int .i64), .box [.sl (.int .i64), .d .bool, .sl (.int .i64)], .data (.int .i64), .dead, .dead, .dead, .dead, .dead, .dead, .dead, .dead, .dead, .dead, .dead, .dead, .dead, .dead, .dead, .dead, .dead, .dead, .dead, .dead, .dead, .dead, .dead, .dead, .dead, .dead, .dead, .dead, .dead, .dead, .dead, .dead, .dead, .dead, .dead, .dead, .dead, .dead, .dead, .dead, .dead, .dead, .dead, .dead, .dead, .dead, .dead, .dead, .dead, .dead, .dead, .dead, .dead, .dead, .dead, .dead, .dead, .dead, .dead, .dead, .dead, .dead, .dead, .dead, .dead, .dead, .dead, .dead, .dead, .dead, .dead, .dead, .dead, .dead, .dead, .dead, .dead, .dead, .dead, .dead, .dead, .dead, .dead, .dead, .dead, .dead, .dead, .dead, .dead, .dead, .dead, .dead, .dead, .dead, .dead, .dead, .dead, .dead, .dead, .dead, .dead, .dead, .dead, .dead, .dead, .dead, .dead, .dead, .dead, .dead, .dead, .dead, .dead, .dead, .dead, .dead, .dead, .dead, .dead, .dead, .dead, .dead, .dead, .dead, .dead, .dead, .dead, .dead, .dead, .dead, .dead, .dead]
abbrev e_lodgelaw8_MatOnes_0 : List (AX × List Slot) := [(AX.exit 0, [.dead, .dead, .dead, .data (.int .i64), .dead, .dead, .dead, .dead, .dead, .dead, .box [.sl (.int .i64), .d .bool, .sl (.int .i64)], .data (.int .i64), .box [.sl (.int .i64), .d .bool, .sl (.int .i64)], .dead, .dead, .dead, .dead, .dead, .dead, .dead, .dead, .dead, .dead, .dead, .dead, .dead, .dead, .dead, .dead, .dead, .dead, .dead, .dead, .dead, .dead, .dead, .dead, .dead, .dead, .dead, .dead, .dead, .dead, .dead, .dead, .dead, .dead, .dead, .dead, .dead, .dead, .dead, .dead, .dead, .dead, .dead, .dead, .dead, .dead, .dead, .dead, .dead, .dead, .dead, .dead, .dead, .dead, .dead, .dead, .dead, .dead, .dead, .dead, .dead, .dead, .dead, .dead, .dead, .dead, .dead, .dead, .dead, .dead, .dead, .dead, .dead, .dead, .dead, .dead, .dead, .dead, .dead, .dead, .dead, .dead, .dead, .dead, .dead, .dead, .dead, .dead, .dead, .dead, .dead, .dead, .dead, .dead, .dead, .dead, .dead, .dead, .dead, .dead, .dead, .dead, .dead, .dead, .dead, .dead, .dead, .dead, .dead, .dead, .dead, .dead, .dead, .dead, .dead, .dead, .dead, .dead, .dead, .dead, .dead, .dead, .dead, .dead, .dead, .dead, .dead, .dead, .dead, .dead, .dead, .dead, .dead])]
def g_lodgelaw8_MatOnes_0 (N : Nat) : Nat → Int → (List Int × (Bool × (List Int × Unit))) → Int → (List Int × (Bool × (List Int × Unit))) → Int → Option (Int × ((List Int × (Bool × (List Int × Unit))) × (Int × ((List Int × (Bool × (List Int × Unit))) × Unit))))
  | 0, _, _, _, _, _ => none
  | n + 1, za_3, a_10, w_11, one_12, i_13 =>
    cond (decide (i_13 < w_11))
      (
      cond (decide ((0 : Int) ≤ (wi64 ((wi64 (i_13 * w_11)) + i_13))))
        (
        cond (decide ((Int.toNat (wi64 ((wi64 (i_13 * w_11)) + i_13))) < (List.length (((one_12).2).2).1)))
          (
          cond (decide (((0 : Nat) + (Int.toNat (wi64 ((wi64 (i_13 * w_11)) + i_13)))) < (List.length (((one_12).2).2).1)))
            (
            cond (decide ((List.length (a_10).1) = (List.length (a_10).1)))
              (
              cond (decide ((List.length (((a_10).2).2).1) = (List.length (((a_10).2).2).1)))
                (
                cond (decide ((List.length (one_12).1) = (List.length (one_12).1)))
                  (
                  cond (decide ((List.length (((one_12).2).2).1) = (List.length (List.set (((one_12).2).2).1 ((0 : Nat) + (Int.toNat (wi64 ((wi64 (i_13 * w_11)) + i_13)))) (1 : Int)))))
                    (
                    (g_lodgelaw8_MatOnes_0 N n za_3 a_10 w_11 ((one_12).1, (((one_12).2).1, ((List.set (((one_12).2).2).1 ((0 : Nat) + (Int.toNat (wi64 ((wi64 (i_13 * w_11)) + i_13)))) (1 : Int)), ()))) (wi64 (i_13 + (1 : Int)))))
                    (
                    none))
                  (
                  none))
                (
                none))
              (
              none))
            (
            none))
          (
          none))
        (
        none))
      (
      cond (decide ((List.length (a_10).1) = (List.length (a_10).1)))
        (
        cond (decide ((List.length (((a_10).2).2).1) = (List.length (((a_10).2).2).1)))
          (
          cond (decide ((List.length (one_12).1) = (List.length (one_12).1)))
            (
            cond (decide ((List.length (((one_12).2).2).1) = (List.length (((one_12).2).2).1)))
              (
              some (za_3, (a_10, (w_11, (one_12, ())))))
              (
              none))
            (
            none))
          (
          none))
        (
        none))

abbrev h_lodgelaw8_MatOnes_1 : List Slot := [.dead, .dead, .dead, .data (.int .i64), .dead, .dead, .dead, .dead, .dead, .dead, .box [.d (.st (.pair (.st (.pair (.sl (.int .i64)) .bool)) (.sl (.int .i64))))], .dead, .box [.d (.st (.pair (.st (.pair (.sl (.int .i64)) .bool)) (.sl (.int .i64))))], .dead, .box [.d (.sl (.int .i64)), .d .bool, .sl (.int .i64)], .dead, .box [.d (.sl (.int .i64)), .d .bool, .sl (.int .i64)], .dead, .data (.int .i64), .dead, .dead, .dead, .dead, .dead, .dead, .dead, .dead, .dead, .dead, .dead, .dead, .dead, .dead, .dead, .dead, .dead, .dead, .dead, .dead, .dead, .dead, .dead, .dead, .dead, .dead, .dead, .dead, .dead, .dead, .dead, .dead, .dead, .dead, .dead, .dead, .dead, .dead, .dead, .dead, .dead, .dead, .dead, .dead, .dead, .dead, .dead, .dead, .dead, .dead, .dead, .dead, .dead, .dead, .dead, .dead, .dead, .dead, .dead, .dead, .dead, .dead, .dead, .dead, .dead, .dead, .dead, .dead, .dead, .dead, .dead, .dead, .dead, .dead, .dead, .dead, .dead, .dead, .dead, .dead, .dead, .dead, .dead, .dead, .dead, .dead, .dead, .dead, .dead, .dead, .dead, .dead, .dead, .dead, .dead, .dead, .dead, .dead, .dead, .dead, .dead, .dead, .dead, .dead, .dead, .dead, .dead, .dead, .dead, .dead, .dead, .dead, .dead, .dead, .dead, .dead, .dead, .dead, .dead, .dead, .dead, .dead, .dead, .dead, .dead, .dead, .dead]
abbrev e_lodgelaw8_MatOnes_1 : List (AX × List Slot) := [(AX.exit 2, [.dead, .dead, .dead, .data (.int .i64), .dead, .dead, .dead, .dead, .dead, .dead, .box [.d (.st (.pair (.st (.pair (.sl (.int .i64)) .bool)) (.sl (.int .i64))))], .dead, .box [.d (.st (.pair (.st (.pair (.sl (.int .i64)) .bool)) (.sl (.int .i64))))], .dead, .dead, .dead, .dead, .dead, .dead, .dead, .dead, .dead, .dead, .dead, .dead, .dead, .dead, .dead, .dead, .dead, .dead, .dead, .dead, .dead, .dead, .dead, .dead, .dead, .dead, .dead, .dead, .dead, .dead, .dead, .dead, .dead, .dead, .dead, .dead, .dead, .dead, .dead, .dead, .dead, .dead, .dead, .dead, .dead, .dead, .dead, .dead, .dead, .dead, .dead, .dead, .dead, .dead, .dead, .dead, .dead, .dead, .dead, .dead, .dead, .dead, .dead, .dead, .dead, .dead, .dead, .dead, .dead, .dead, .dead, .dead, .dead, .dead, .dead, .dead, .dead, .dead, .dead, .dead, .dead, .dead, .dead, .dead, .dead, .dead, .dead, .dead, .dead, .dead, .dead, .dead, .dead, .dead, .dead, .dead, .dead, .dead, .dead, .dead, .dead, .dead, .dead, .dead, .dead, .dead, .dead, .dead, .dead, .dead, .dead, .dead, .dead, .dead, .dead, .dead, .dead, .dead, .dead, .dead, .dead, .dead, .dead, .dead, .dead, .dead, .dead, .dead, .dead, .dead, .dead, .dead, .dead]), (AX.ret, [.dead, .dead, .dead, .dead, .dead, .dead, .dead, .dead, .data .bool, .dead, .dead, .dead, .dead, .dead, .dead, .dead, .dead, .dead, .dead, .dead, .dead, .dead, .dead, .dead, .dead, .dead, .dead, .dead, .dead, .dead, .dead, .dead, .dead, .dead, .dead, .dead, .dead, .dead, .dead, .dead, .dead, .dead, .dead, .dead, .dead, .dead, .dead, .dead, .dead, .dead, .dead, .dead, .dead, .dead, .dead, .dead, .dead, .dead, .dead, .dead, .dead, .dead, .dead, .dead, .dead, .dead, .dead, .dead, .dead, .dead, .dead, .dead, .dead, .dead, .dead, .dead, .dead, .dead, .dead, .dead, .dead, .dead, .dead, .dead, .dead, .dead, .dead, .dead, .dead, .dead, .dead, .dead, .dead, .dead, .dead, .dead, .dead, .dead, .dead, .dead, .dead, .dead, .dead, .dead, .dead, .dead, .dead, .dead, .dead, .dead, .dead, .dead, .dead, .dead, .dead, .dead, .dead, .dead, .dead, .dead, .dead, .dead, .dead, .dead, .dead, .dead, .dead, .dead, .dead, .dead, .dead, .dead, .dead, .dead, .dead, .dead, .dead, .dead, .dead, .dead, .dead, .dead, .dead, .dead, .dead, .dead])]
def g_lodgelaw8_MatOnes_1 (N : Nat) : Nat → Int → (((List Int × Bool) × List Int) × Unit) → (((List Int × Bool) × List Int) × Unit) → (List Int × (Bool × (List Int × Unit))) → (List Int × (Bool × (List Int × Unit))) → Int → Option (Sum (Int × ((((List Int × Bool) × List Int) × Unit) × ((((List Int × Bool) × List Int) × Unit) × Unit))) (Bool × Unit))
  | 0, _, _, _, _, _, _ => none
  | n + 1, za_3, a_10, one_12, p_14, q_16, i_18 =>
    cond (decide (i_18 < (Nat.cast (List.length ((a_10).1).2) : Int)))
      (
      cond (decide ((0 : Int) ≤ i_18))
        (
        cond (decide ((Int.toNat i_18) < (List.length (((p_14).2).2).1)))
          (
          cond (decide (((0 : Nat) + (Int.toNat i_18)) < (List.length (((p_14).2).2).1)))
            (
            cond (decide ((0 : Int) ≤ i_18))
              (
              cond (decide ((Int.toNat i_18) < (List.length ((a_10).1).2)))
                (
                cond (decide (@Ne Int (List.getD (((p_14).2).2).1 ((0 : Nat) + (Int.toNat i_18)) (0 : Int)) (wi64 ((List.getD ((a_10).1).2 (Int.toNat i_18) (0 : Int)) - za_3))))
                  (
                  some (Sum.inr (false, ())))
                  (
                  cond (decide ((0 : Int) ≤ i_18))
                    (
                    cond (decide ((Int.toNat i_18) < (List.length (((q_16).2).2).1)))
                      (
                      cond (decide (((0 : Nat) + (Int.toNat i_18)) < (List.length (((q_16).2).2).1)))
                        (
                        cond (decide (@Ne Int (List.getD (((q_16).2).2).1 ((0 : Nat) + (Int.toNat i_18)) (0 : Int)) (0 : Int)))
                          (
                          some (Sum.inr (false, ())))
                          (
                          Option.bind (F_mat_Cell N (a_10).1 (one_12).1 za_3 (0 : Int) i_18) fun y11 =>
                          cond (decide ((0 : Int) ≤ i_18))
                            (
                            cond (decide ((Int.toNat i_18) < (List.length (((p_14).2).2).1)))
                              (
                              cond (decide (((0 : Nat) + (Int.toNat i_18)) < (List.length (((p_14).2).2).1)))
                                (
                                cond (decide (@Ne Int (y11).1 (List.getD (((p_14).2).2).1 ((0 : Nat) + (Int.toNat i_18)) (0 : Int))))
                                  (
                                  some (Sum.inr (false, ())))
                                  (
                                  cond (decide ((List.length (((p_14).2).2).1) = (List.length (((p_14).2).2).1)))
                                    (
                                    cond (decide ((List.length (((q_16).2).2).1) = (List.length (((q_16).2).2).1)))
                                      (
                                      (g_lodgelaw8_MatOnes_1 N n za_3 a_10 one_12 p_14 q_16 (wi64 (i_18 + (1 : Int)))))
                                      (
                                      none))
                                    (
                                    none)))
                                (
                                none))
                              (
                              none))
                            (
                            none)))
                        (
                        none))
                      (
                      none))
                    (
                    none)))
                (
                none))
              (
              none))
            (
            none))
          (
          none))
        (
        none))
      (
      some (Sum.inl (za_3, (a_10, (one_12, ())))))

def F_lodgelaw8_MatOnes (N : Nat) (m_0 : Int) (n_1 : Int) (l_2 : List Int) (za_3 : Int) : Option (Bool × Unit) :=
  Option.bind (F_lodgelaw8_first N) fun y0 =>
  cond (Bool.not (y0).1)
    (
    some (false, ()))
    (
    cond (decide ((40 : Int) < (Nat.cast (List.length l_2) : Int)))
      (
      some y0)
      (
      cond (Bool.not (y0).1)
        (
        some y0)
        (
        Option.bind (F_lodgeworld_Number N m_0 (12 : Int)) fun y1 =>
        Option.bind (F_lodgeworld_Number N n_1 (12 : Int)) fun y2 =>
        Option.bind (F_lodgelaw8_matrix N (wi64 ((y1).1 + (1 : Int))) (wi64 ((y2).1 + (1 : Int))) l_2) fun y3 =>
        Option.bind (F_lodgeworld_Number N za_3 (256 : Int)) fun y4 =>
        cond (decide (1 < (List.length ((y3).1).1)))
          (
          cond (decide (((0 : Nat) + 1) < (List.length ((y3).1).1)))
            (
            Option.bind (F_lodgelaw8_matrix N (List.getD ((y3).1).1 ((0 : Nat) + 1) (0 : Int)) (List.getD ((y3).1).1 ((0 : Nat) + 1) (0 : Int)) ([] : List Int)) fun y5 =>
            cond (decide ((List.length ((y3).1).1) = (List.length ((y3).1).1)))
              (
              cond (decide ((List.length ((((y3).1).2).2).1) = (List.length ((((y3).1).2).2).1)))
                (
                cond (decide ((List.length ((y5).1).1) = (List.length ((y5).1).1)))
                  (
                  cond (decide ((List.length ((((y5).1).2).2).1) = (List.length ((((y5).1).2).2).1)))
                    (
                    Option.bind (g_lodgelaw8_MatOnes_0 N N (wi64 ((y4).1 - (128 : Int))) (y3).1 (List.getD ((y3).1).1 ((0 : Nat) + 1) (0 : Int)) (y5).1 (0 : Int)) fun y6 =>
                    cond (decide (((0 : Nat) + (List.length (((y6).2).1).1)) ≤ (List.length (((y6).2).1).1)))
                      (
                      cond (decide (((0 : Nat) + (List.length (((((y6).2).1).2).2).1)) ≤ (List.length (((((y6).2).1).2).2).1)))
                        (
                        cond (decide (((0 : Nat) + (List.length (((((y6).2).2).2).1).1)) ≤ (List.length (((((y6).2).2).2).1).1)))
                          (
                          cond (decide (((0 : Nat) + (List.length (((((((y6).2).2).2).1).2).2).1)) ≤ (List.length (((((((y6).2).2).2).1).2).2).1)))
                            (
                            Option.bind (F_mat_Mul N (((List.take (List.length (((y6).2).1).1) (((y6).2).1).1), ((((y6).2).1).2).1), (List.take (List.length (((((y6).2).1).2).2).1) (((((y6).2).1).2).2).1)) (((List.take (List.length (((((y6).2).2).2).1).1) (((((y6).2).2).2).1).1), ((((((y6).2).2).2).1).2).1), (List.take (List.length (((((((y6).2).2).2).1).2).2).1) (((((((y6).2).2).2).1).2).2).1)) (y6).1 (0 : Int)) fun y7 =>
                            Option.bind (F_lodgelaw8_matrix N (((y6).2).2).1 (((y6).2).2).1 ([] : List Int)) fun y8 =>
                            cond (decide (((0 : Nat) + (List.length (((y6).2).1).1)) ≤ (List.length (((y6).2).1).1)))
                              (
                              cond (decide (((0 : Nat) + (List.length (((((y6).2).1).2).2).1)) ≤ (List.length (((((y6).2).1).2).2).1)))
                                (
                                cond (decide (((0 : Nat) + (List.length ((y8).1).1)) ≤ (List.length ((y8).1).1)))
                                  (
                                  cond (decide (((0 : Nat) + (List.length ((((y8).1).2).2).1)) ≤ (List.length ((((y8).1).2).2).1)))
                                    (
                                    Option.bind (F_mat_Mul N (((List.take (List.length (((y6).2).1).1) (((y6).2).1).1), ((((y6).2).1).2).1), (List.take (List.length (((((y6).2).1).2).2).1) (((((y6).2).1).2).2).1)) (((List.take (List.length ((y8).1).1) ((y8).1).1), (((y8).1).2).1), (List.take (List.length ((((y8).1).2).2).1) ((((y8).1).2).2).1)) (y6).1 (0 : Int)) fun y9 =>
                                    cond (Bool.not (Go.Eng.Er.isNil ((y7).2).1))
                                      (
                                      some (false, ()))
                                      (
                                      cond (Bool.not (Go.Eng.Er.isNil ((y9).2).1))
                                        (
                                        some (false, ()))
                                        (
                                        cond (Bool.not (((y7).1).2).1)
                                          (
                                          some (false, ()))
                                          (
                                          cond (decide (((0 : Nat) + (List.length (((y6).2).1).1)) ≤ (List.length (((y6).2).1).1)))
                                            (
                                            cond (decide (((0 : Nat) + (List.length (((((y6).2).1).2).2).1)) ≤ (List.length (((((y6).2).1).2).2).1)))
                                              (
                                              cond (decide (((0 : Nat) + (List.length (((((y6).2).2).2).1).1)) ≤ (List.length (((((y6).2).2).2).1).1)))
                                                (
                                                cond (decide (((0 : Nat) + (List.length (((((((y6).2).2).2).1).2).2).1)) ≤ (List.length (((((((y6).2).2).2).1).2).2).1)))
                                                  (
                                                  cond (decide (((0 : Nat) + (List.length (((y6).2).1).1)) ≤ (List.length (((y6).2).1).1)))
                                                    (
                                                    cond (decide (((0 : Nat) + (List.length (((((y6).2).1).2).2).1)) ≤ (List.length (((((y6).2).1).2).2).1)))
                                                      (
                                                      cond (decide (((0 : Nat) + (List.length (((((y6).2).2).2).1).1)) ≤ (List.length (((((y6).2).2).2).1).1)))
                                                        (
                                                        cond (decide (((0 : Nat) + (List.length (((((((y6).2).2).2).1).2).2).1)) ≤ (List.length (((((((y6).2).2).2).1).2).2).1)))
                                                          (
                                                          cond (decide ((List.length ((((y7).1).2).2).1) = (List.length ((((y7).1).2).2).1)))
                                                            (
                                                            cond (decide ((List.length ((((y9).1).2).2).1) = (List.length ((((y9).1).2).2).1)))
                                                              (
                                                              Option.bind (g_lodgelaw8_MatOnes_1 N N (y6).1 ((((List.take (List.length (((y6).2).1).1) (((y6).2).1).1), ((((y6).2).1).2).1), (List.take (List.length (((((y6).2).1).2).2).1) (((((y6).2).1).2).2).1)), ()) ((((List.take (List.length (((((y6).2).2).2).1).1) (((((y6).2).2).2).1).1), ((((((y6).2).2).2).1).2).1), (List.take (List.length (((((((y6).2).2).2).1).2).2).1) (((((((y6).2).2).2).1).2).2).1)), ()) (y7).1 (y9).1 (0 : Int)) fun y10 =>
                                                              Sum.elim (fun y11 =>
                                                                Option.bind (F_mat_Cell N (((y11).2).1).1 ((((y11).2).2).1).1 (y11).1 (0 : Int) (Nat.cast (List.length ((((y11).2).1).1).2) : Int)) fun y12 =>
                                                                cond (decide ((y12).1 = (0 : Int)))
                                                                  (
                                                                  Option.bind (F_mat_Cell N (((y11).2).1).1 ((((y11).2).2).1).1 (y11).1 (0 : Int) (-(1 : Int))) fun y13 =>
                                                                  some ((decide ((y13).1 = (0 : Int))), ()))
                                                                  (
                                                                  some (false, ())))
                                                                (fun y14 =>
                                                                some y14) y10)
                                                              (
                                                              none))
                                                            (
                                                            none))
                                                          (
                                                          none))
                                                        (
                                                        none))
                                                      (
                                                      none))
                                                    (
                                                    none))
                                                  (
                                                  none))
                                                (
                                                none))
                                              (
                                              none))
                                            (
                                            none)))))
                                    (
                                    none))
                                  (
                                  none))
                                (
                                none))
                              (
                              none))
                            (
                            none))
                          (
                          none))
                        (
                        none))
                      (
                      none))
                    (
                    none))
                  (
                  none))
                (
                none))
              (
              none))
            (
            none))
          (
          none))))

abbrev c_lodgelaw8_MatOnes (N : Nat) : CallSpec := ⟨4, ps_lodgelaw8_MatOnes, rs_lodgelaw8_MatOnes, fun x => F_lodgelaw8_MatOnes N x.1 x.2.1 x.2.2.1 x.2.2.2.1⟩
abbrev l_lodgelaw8_MatOnes_1 (N : Nat) : LoopSpec := ⟨1, h_lodgelaw8_MatOnes_1, e_lodgelaw8_MatOnes_1, fun x => g_lodgelaw8_MatOnes_1 N N x.1 x.2.1 x.2.2.1 x.2.2.2.1 x.2.2.2.2.1 x.2.2.2.2.2.1⟩
abbrev l_lodgelaw8_MatOnes_0 (N : Nat) : LoopSpec := ⟨0, h_lodgelaw8_MatOnes_0, e_lodgelaw8_MatOnes_0, fun x => g_lodgelaw8_MatOnes_0 N N x.1 x.2.1 x.2.2.1 x.2.2.2.1 x.2.2.2.2.1⟩

theorem cs_lodgelaw8_MatOnes_ok (S : Nat → Addr) (N : Nat) : CallsOK Go.Proofs.Tryd.prog E S (cs_lodgelaw8_MatOnes N) :=
  .cons (F_mat_Mul_ok S N) (.cons (F_lodgelaw8_first_ok S N) (.cons (F_lodgeworld_Number_ok S N) (.cons (F_lodgelaw8_matrix_ok S N) (.cons (F_mat_Cell_ok S N) (.nil)))))
noncomputable abbrev b_lodgelaw8_MatOnes_1 : Code := (loopsOf b_lodgelaw8_MatOnes).getD 1 .skip
theorem g_lodgelaw8_MatOnes_1_ok (S : Nat → Addr) (N : Nat) : ∀ n x y, (fun (x : Val (slotsTy h_lodgelaw8_MatOnes_1)) => g_lodgelaw8_MatOnes_1 N n x.1 x.2.1 x.2.2.1 x.2.2.2.1 x.2.2.2.2.1 x.2.2.2.2.2.1) x = some y → LoopCon Go.Proofs.Tryd.prog E S b_lodgelaw8_MatOnes_1 (encSlots h_lodgelaw8_MatOnes_1 x) (encEx e_lodgelaw8_MatOnes_1 y).1 (encEx e_lodgelaw8_MatOnes_1 y).2 :=
  loop_spec E_ok mixed (cs_lodgelaw8_MatOnes_ok S N) (all := loopsOf b_lodgelaw8_MatOnes) (ls := []) (.nil) (i := 1) (by kernel_rfl) (inner_of (by kernel_rfl)) (head := h_lodgelaw8_MatOnes_1) (ex := e_lodgelaw8_MatOnes_1) (fun n (x : Val (slotsTy h_lodgelaw8_MatOnes_1)) => g_lodgelaw8_MatOnes_1 N n x.1 x.2.1 x.2.2.1 x.2.2.2.1 x.2.2.2.2.1 x.2.2.2.2.2.1) (fun _ => rfl) (fun n x => by kernel_rfl)
noncomputable abbrev b_lodgelaw8_MatOnes_0 : Code := (loopsOf b_lodgelaw8_MatOnes).getD 0 .skip
theorem g_lodgelaw8_MatOnes_0_ok (S : Nat → Addr) (N : Nat) : ∀ n x y, (fun (x : Val (slotsTy h_lodgelaw8_MatOnes_0)) => g_lodgelaw8_MatOnes_0 N n x.1 x.2.1 x.2.2.1 x.2.2.2.1 x.2.2.2.2.1) x = some y → LoopCon Go.Proofs.Tryd.prog E S b_lodgelaw8_MatOnes_0 (encSlots h_lodgelaw8_MatOnes_0 x) (encEx e_lodgelaw8_MatOnes_0 y).1 (encEx e_lodgelaw8_MatOnes_0 y).2 :=
  loop_spec E_ok mixed (cs_lodgelaw8_MatOnes_ok S N) (all := loopsOf b_lodgelaw8_MatOnes) (ls := []) (.nil) (i := 0) (by kernel_rfl) (inner_of (by kernel_rfl)) (head := h_lodgelaw8_MatOnes_0) (ex := e_lodgelaw8_MatOnes_0) (fun n (x : Val (slotsTy h_lodgelaw8_MatOnes_0)) => g_lodgelaw8_MatOnes_0 N n x.1 x.2.1 x.2.2.1 x.2.2.2.1 x.2.2.2.2.1) (fun _ => rfl) (fun n x => by kernel_rfl)
theorem F_lodgelaw8_MatOnes_ok (S : Nat → Addr) (N : Nat) : ∀ x y, (c_lodgelaw8_MatOnes N).g x = some y → FCon Go.Proofs.Tryd.prog E S 4 ps_lodgelaw8_MatOnes rs_lodgelaw8_MatOnes x y := by
  intro x y h
  exact fun_spec E_ok mixed (cs_lodgelaw8_MatOnes_ok S N) (f := 4) (fi := ⟨b_lodgelaw8_MatOnes, 146, Go.Proofs.Tryd.f4.results.toList⟩) (by kernel_rfl) (ls := [l_lodgelaw8_MatOnes_1 N, l_lodgelaw8_MatOnes_0 N]) (.cons (by kernel_rfl) (g_lodgelaw8_MatOnes_1_ok S N N) (.cons (by kernel_rfl) (g_lodgelaw8_MatOnes_0_ok S N N) (.nil))) (by kernel_rfl) (ps := ps_lodgelaw8_MatOnes) (rs := rs_lodgelaw8_MatOnes) (Eq.trans (b := F_lodgelaw8_MatOnes N x.1 x.2.1 x.2.2.1 x.2.2.2.1) (by kernel_rfl) h)

/-! lodge/mat.Turn -/

abbrev ps_mat_Turn : List Ty := [(.st (.pair (.st (.pair (.sl (.int .i64)) .bool)) (.sl (.int .i64))))]
abbrev rs_mat_Turn : List Slot := [.ag [.sl (.int .i64), .d .bool, .sl (.int .i64)], .data .err]
abbrev cs_mat_Turn (N : Nat) : List CallSpec := [c_tens_Valid N]
noncomputable abbrev b_mat_Turn : Code := (Go.Proofs.Tryd.f14.body).getD .skip

abbrev h_mat_Turn_0 : List Slot := [.dead, .box [.d (.st (.pair (.st (.pair (.sl (.int .i64)) .bool)) (.sl (.int .i64))))], .box [.sl (.int .i64), .d .bool, .sl (.int .i64)], .dead, .dead, .data (.int .i64), .data (.int .i64), .box [.sl (.int .i64), .d .bool, .sl (.int .i64)], .dead, .dead, .dead, .dead, .dead, .dead, .dead, .dead, .dead, .dead, .dead, .dead, .dead, .dead, .dead, .dead, .dead, .dead, .dead, .dead, .dead, .dead, .dead, .dead, .dead, .dead, .dead, .dead, .dead, .dead, .dead, .dead, .dead, .dead, .data (.int .i64), .data (.int .i64), .dead, .dead, .dead, .dead, .dead, .dead, .dead, .dead, .dead, .dead, .dead, .dead, .dead, .dead, .dead, .dead, .dead, .dead, .dead, .dead, .dead, .dead]
abbrev e_mat_Turn_0 : List (AX × List Slot) := [(AX.exit 0, [.dead, .dead, .box [.sl (.int .i64), .d .bool, .sl (.int .i64)], .dead, .dead, .dead, .dead, .box [.sl (.int .i64), .d .bool, .sl (.int .i64)], .dead, .dead, .dead, .dead, .dead, .dead, .dead, .dead, .dead, .dead, .dead, .dead, .dead, .dead, .dead, .dead, .dead, .dead, .dead, .dead, .dead, .dead, .dead, .dead, .dead, .dead, .dead, .dead, .dead, .dead, .dead, .dead, .dead, .dead, .dead, .dead, .dead, .dead, .dead, .dead, .dead, .dead, .dead, .dead, .dead, .dead, .dead, .dead, .dead, .dead, .dead, .dead, .dead, .dead, .dead, .dead, .dead, .dead])]
def g_mat_Turn_0 (N : Nat) : Nat → (((List Int × Bool) × List Int) × Unit) → (List Int × (Bool × (List Int × Unit))) → Int → Int → (List Int × (Bool × (List Int × Unit))) → Int → Int → Option ((List Int × (Bool × (List Int × Unit))) × ((List Int × (Bool × (List Int × Unit))) × Unit))
  | 0, _, _, _, _, _, _, _ => none
  | n + 1, a_1, t_2, m_5, n_6, out_7, t_42, t_43 =>
    cond (decide (t_43 < t_42))
      (
      cond (decide (@Ne Int m_5 (0 : Int)))
        (
        cond (decide (@Ne Int m_5 (0 : Int)))
          (
          cond (decide ((0 : Int) ≤ (wi64 ((wi64 ((Int.tmod t_43 m_5) * n_6)) + (wi64 (Int.tdiv t_43 m_5))))))
            (
            cond (decide ((Int.toNat (wi64 ((wi64 ((Int.tmod t_43 m_5) * n_6)) + (wi64 (Int.tdiv t_43 m_5))))) < (List.length ((a_1).1).2)))
              (
              cond (decide (((0 : Nat) + (List.length (((out_7).2).2).1)) = (List.length (((out_7).2).2).1)))
                (
                cond (decide ((((List.length (((out_7).2).2).1) + 1) * (8 + (1 : Nat))) ≤ Go.Eng.most))
                  (
                  cond (decide ((List.length (t_2).1) = (List.length (t_2).1)))
                    (
                    cond (decide ((List.length (((t_2).2).2).1) = (List.length (((t_2).2).2).1)))
                      (
                      cond (decide ((List.length (out_7).1) = (List.length (out_7).1)))
                        (
                        cond (decide (((List.length (((out_7).2).2).1) + 1) = (List.length ((List.take (List.length (((out_7).2).2).1) (((out_7).2).2).1) ++ ((List.getD ((a_1).1).2 (Int.toNat (wi64 ((wi64 ((Int.tmod t_43 m_5) * n_6)) + (wi64 (Int.tdiv t_43 m_5))))) (0 : Int)) :: ([] : List Int))))))
                          (
                          (g_mat_Turn_0 N n a_1 t_2 m_5 n_6 ((out_7).1, (((out_7).2).1, (((List.take (List.length (((out_7).2).2).1) (((out_7).2).2).1) ++ ((List.getD ((a_1).1).2 (Int.toNat (wi64 ((wi64 ((Int.tmod t_43 m_5) * n_6)) + (wi64 (Int.tdiv t_43 m_5))))) (0 : Int)) :: ([] : List Int))), ()))) t_42 (wi64 (t_43 + (1 : Int)))))
                          (
                          none))
                        (
                        none))
                      (
                      none))
                    (
                    none))
                  (
                  none))
                (
                none))
              (
              none))
            (
            none))
          (
          none))
        (
        none))
      (
      cond (decide ((List.length (t_2).1) = (List.length (t_2).1)))
        (
        cond (decide ((List.length (((t_2).2).2).1) = (List.length (((t_2).2).2).1)))
          (
          cond (decide ((List.length (out_7).1) = (List.length (out_7).1)))
            (
            cond (decide ((List.length (((out_7).2).2).1) = (List.length (((out_7).2).2).1)))
              (
              some (t_2, (out_7, ())))
              (
              none))
            (
            none))
          (
          none))
        (
        none))

def F_mat_Turn (N : Nat) (a_0 : ((List Int × Bool) × List Int)) : Option ((List Int × (Bool × (List Int × Unit))) × (Er × Unit)) :=
  Option.bind (F_tens_Valid N a_0) fun y0 =>
  cond (Bool.not (Go.Eng.Er.isNil (y0).1))
    (
    some ((([] : List Int), (false, (([] : List Int), ()))), y0))
    (
    cond (decide (@Ne Int (Nat.cast (List.length ((a_0).1).1) : Int) (2 : Int)))
      (
      some ((([] : List Int), (false, (([] : List Int), ()))), ((Go.Eng.Er.s ErrShape), ())))
      (
      cond (decide (0 < (List.length ((a_0).1).1)))
        (
        cond (decide (1 < (List.length ((a_0).1).1)))
          (
          Option.bind (g_mat_Turn_0 N N (a_0, ()) (([] : List Int), (false, (([] : List Int), ()))) (List.getD ((a_0).1).1 0 (0 : Int)) (List.getD ((a_0).1).1 1 (0 : Int)) (((List.getD ((a_0).1).1 1 (0 : Int)) :: ((List.getD ((a_0).1).1 0 (0 : Int)) :: ([] : List Int))), (((a_0).1).2, (([] : List Int), ()))) (wi64 ((List.getD ((a_0).1).1 0 (0 : Int)) * (List.getD ((a_0).1).1 1 (0 : Int)))) (0 : Int)) fun y1 =>
          cond (decide ((List.length (((y1).2).1).1) = (List.length (((y1).2).1).1)))
            (
            cond (decide ((List.length (((((y1).2).1).2).2).1) = (List.length (((((y1).2).1).2).2).1)))
              (
              some (((y1).2).1, (Go.Eng.Er.nil, ())))
              (
              none))
            (
            none))
          (
          none))
        (
        none)))

abbrev c_mat_Turn (N : Nat) : CallSpec := ⟨14, ps_mat_Turn, rs_mat_Turn, fun x => F_mat_Turn N x.1⟩
abbrev l_mat_Turn_0 (N : Nat) : LoopSpec := ⟨0, h_mat_Turn_0, e_mat_Turn_0, fun x => g_mat_Turn_0 N N x.1 x.2.1 x.2.2.1 x.2.2.2.1 x.2.2.2.2.1 x.2.2.2.2.2.1 x.2.2.2.2.2.2.1⟩

theorem cs_mat_Turn_ok (S : Nat → Addr) (N : Nat) : CallsOK Go.Proofs.Tryd.prog E S (cs_mat_Turn N) :=
  .cons (F_tens_Valid_ok S N) (.nil)
noncomputable abbrev b_mat_Turn_0 : Code := (loopsOf b_mat_Turn).getD 0 .skip
theorem g_mat_Turn_0_ok (S : Nat → Addr) (N : Nat) : ∀ n x y, (fun (x : Val (slotsTy h_mat_Turn_0)) => g_mat_Turn_0 N n x.1 x.2.1 x.2.2.1 x.2.2.2.1 x.2.2.2.2.1 x.2.2.2.2.2.1 x.2.2.2.2.2.2.1) x = some y → LoopCon Go.Proofs.Tryd.prog E S b_mat_Turn_0 (encSlots h_mat_Turn_0 x) (encEx e_mat_Turn_0 y).1 (encEx e_mat_Turn_0 y).2 :=
  loop_spec E_ok mixed (cs_mat_Turn_ok S N) (all := loopsOf b_mat_Turn) (ls := []) (.nil) (i := 0) (by kernel_rfl) (inner_of (by kernel_rfl)) (head := h_mat_Turn_0) (ex := e_mat_Turn_0) (fun n (x : Val (slotsTy h_mat_Turn_0)) => g_mat_Turn_0 N n x.1 x.2.1 x.2.2.1 x.2.2.2.1 x.2.2.2.2.1 x.2.2.2.2.2.1 x.2.2.2.2.2.2.1) (fun _ => rfl) (fun n x => by kernel_rfl)
theorem F_mat_Turn_ok (S : Nat → Addr) (N : Nat) : ∀ x y, (c_mat_Turn N).g x = some y → FCon Go.Proofs.Tryd.prog E S 14 ps_mat_Turn rs_mat_Turn x y := by
  intro x y h
  exact fun_spec E_ok mixed (cs_mat_Turn_ok S N) (f := 14) (fi := ⟨b_mat_Turn, 66, Go.Proofs.Tryd.f14.results.toList⟩) (by kernel_rfl) (ls := [l_mat_Turn_0 N]) (.cons (by kernel_rfl) (g_mat_Turn_0_ok S N N) (.nil)) (by kernel_rfl) (ps := ps_mat_Turn) (rs := rs_mat_Turn) (Eq.trans (b := F_mat_Turn N x.1) (by kernel_rfl) h)

/-! slices.Equal[[]int,int] -/

abbrev ps_slices_Equal_int_int : List Ty := [(.sl (.int .i64)), (.sl (.int .i64))]
abbrev rs_slices_Equal_int_int : List Slot := [.data .bool]
abbrev cs_slices_Equal_int_int (N : Nat) : List CallSpec := []
noncomputable abbrev b_slices_Equal_int_int : Code := (Go.Proofs.Tryd.f33.body).getD .skip

abbrev h_slices_Equal_int_int_0 : List Slot := [.data (.sl (.int .i64)), .data (.sl (.int .i64)), .dead, .dead, .dead, .dead, .dead, .dead, .dead, .dead, .dead, .dead, .data (.int .i64), .data (.int .i64), .dead, .dead, .dead, .dead, .dead, .dead, .dead, .dead, .dead, .dead, .dead, .dead]
abbrev e_slices_Equal_int_int_0 : List (AX × List Slot) := [(AX.exit 0, [.dead, .dead, .dead, .dead, .dead, .dead, .dead, .dead, .dead, .dead, .dead, .dead, .dead, .dead, .dead, .dead, .dead, .dead, .dead, .dead, .dead, .dead, .dead, .dead, .dead, .dead]), (AX.ret, [.dead, .dead, .dead, .dead, .data .bool, .dead, .dead, .dead, .dead, .dead, .dead, .dead, .dead, .dead, .dead, .dead, .dead, .dead, .dead, .dead, .dead, .dead, .dead, .dead, .dead, .dead])]
def g_slices_Equal_int_int_0 (N : Nat) : Nat → List Int → List Int → Int → Int → Option (Sum Unit (Bool × Unit))
  | 0, _, _, _, _ => none
  | n + 1, s1_0, s2_1, t_12, t_13 =>
    cond (decide (t_13 < t_12))
      (
      cond (decide ((0 : Int) ≤ t_13))
        (
        cond (decide ((Int.toNat t_13) < (List.length s1_0)))
          (
          cond (decide ((0 : Int) ≤ t_13))
            (
            cond (decide ((Int.toNat t_13) < (List.length s2_1)))
              (
              cond (decide (@Ne Int (List.getD s1_0 (Int.toNat t_13) (0 : Int)) (List.getD s2_1 (Int.toNat t_13) (0 : Int))))
                (
                some (Sum.inr (false, ())))
                (
                (g_slices_Equal_int_int_0 N n s1_0 s2_1 t_12 (wi64 (t_13 + (1 : Int))))))
              (
              none))
            (
            none))
          (
          none))
        (
        none))
      (
      some (Sum.inl ()))

def F_slices_Equal_int_int (N : Nat) (s1_0 : List Int) (s2_1 : List Int) : Option (Bool × Unit) :=
  cond (decide (@Ne Int (Nat.cast (List.length s1_0) : Int) (Nat.cast (List.length s2_1) : Int)))
    (
    some (false, ()))
    (
    Option.bind (g_slices_Equal_int_int_0 N N s1_0 s2_1 (Nat.cast (List.length s1_0) : Int) (0 : Int)) fun y0 =>
    Sum.elim (fun y1 =>
      some (true, ()))
      (fun y2 =>
      some y2) y0)

abbrev c_slices_Equal_int_int (N : Nat) : CallSpec := ⟨33, ps_slices_Equal_int_int, rs_slices_Equal_int_int, fun x => F_slices_Equal_int_int N x.1 x.2.1⟩
abbrev l_slices_Equal_int_int_0 (N : Nat) : LoopSpec := ⟨0, h_slices_Equal_int_int_0, e_slices_Equal_int_int_0, fun x => g_slices_Equal_int_int_0 N N x.1 x.2.1 x.2.2.1 x.2.2.2.1⟩

theorem cs_slices_Equal_int_int_ok (S : Nat → Addr) (N : Nat) : CallsOK Go.Proofs.Tryd.prog E S (cs_slices_Equal_int_int N) :=
  .nil
noncomputable abbrev b_slices_Equal_int_int_0 : Code := (loopsOf b_slices_Equal_int_int).getD 0 .skip
theorem g_slices_Equal_int_int_0_ok (S : Nat → Addr) (N : Nat) : ∀ n x y, (fun (x : Val (slotsTy h_slices_Equal_int_int_0)) => g_slices_Equal_int_int_0 N n x.1 x.2.1 x.2.2.1 x.2.2.2.1) x = some y → LoopCon Go.Proofs.Tryd.prog E S b_slices_Equal_int_int_0 (encSlots h_slices_Equal_int_int_0 x) (encEx e_slices_Equal_int_int_0 y).1 (encEx e_slices_Equal_int_int_0 y).2 :=
  loop_spec E_ok mixed (cs_slices_Equal_int_int_ok S N) (all := loopsOf b_slices_Equal_int_int) (ls := []) (.nil) (i := 0) (by kernel_rfl) (inner_of (by kernel_rfl)) (head := h_slices_Equal_int_int_0) (ex := e_slices_Equal_int_int_0) (fun n (x : Val (slotsTy h_slices_Equal_int_int_0)) => g_slices_Equal_int_int_0 N n x.1 x.2.1 x.2.2.1 x.2.2.2.1) (fun _ => rfl) (fun n x => by kernel_rfl)
theorem F_slices_Equal_int_int_ok (S : Nat → Addr) (N : Nat) : ∀ x y, (c_slices_Equal_int_int N).g x = some y → FCon Go.Proofs.Tryd.prog E S 33 ps_slices_Equal_int_int rs_slices_Equal_int_int x y := by
  intro x y h
  exact fun_spec E_ok mixed (cs_slices_Equal_int_int_ok S N) (f := 33) (fi := ⟨b_slices_Equal_int_int, 26, Go.Proofs.Tryd.f33.results.toList⟩) (by kernel_rfl) (ls := [l_slices_Equal_int_int_0 N]) (.cons (by kernel_rfl) (g_slices_Equal_int_int_0_ok S N N) (.nil)) (by kernel_rfl) (ps := ps_slices_Equal_int_int) (rs := rs_slices_Equal_int_int) (Eq.trans (b := F_slices_Equal_int_int N x.1 x.2.1) (by kernel_rfl) h)

/-! lodge/shape.Same -/

abbrev ps_shape_Same : List Ty := [(.st (.pair (.sl (.int .i64)) .bool)), (.st (.pair (.sl (.int .i64)) .bool))]
abbrev rs_shape_Same : List Slot := [.data .bool]
abbrev cs_shape_Same (N : Nat) : List CallSpec := [c_slices_Equal_int_int N]
noncomputable abbrev b_shape_Same : Code := (Go.Proofs.Tryd.f32.body).getD .skip

def F_shape_Same (N : Nat) (a_0 : (List Int × Bool)) (b_1 : (List Int × Bool)) : Option (Bool × Unit) :=
  cond ((a_0).2 == (b_1).2)
    (
    Option.bind (F_slices_Equal_int_int N (a_0).1 (b_1).1) fun y0 =>
    some y0)
    (
    some (false, ()))

abbrev c_shape_Same (N : Nat) : CallSpec := ⟨32, ps_shape_Same, rs_shape_Same, fun x => F_shape_Same N x.1 x.2.1⟩

theorem cs_shape_Same_ok (S : Nat → Addr) (N : Nat) : CallsOK Go.Proofs.Tryd.prog E S (cs_shape_Same N) :=
  .cons (F_slices_Equal_int_int_ok S N) (.nil)
theorem F_shape_Same_ok (S : Nat → Addr) (N : Nat) : ∀ x y, (c_shape_Same N).g x = some y → FCon Go.Proofs.Tryd.prog E S 32 ps_shape_Same rs_shape_Same x y := by
  intro x y h
  exact fun_spec E_ok mixed (cs_shape_Same_ok S N) (f := 32) (fi := ⟨b_shape_Same, 17, Go.Proofs.Tryd.f32.results.toList⟩) (by kernel_rfl) (ls := []) (.nil) (by kernel_rfl) (ps := ps_shape_Same) (rs := rs_shape_Same) (Eq.trans (b := F_shape_Same N x.1 x.2.1) (by kernel_rfl) h)

/-! lodge/tens.Same -/

abbrev ps_tens_Same : List Ty := [(.st (.pair (.st (.pair (.sl (.int .i64)) .bool)) (.sl (.int .i64)))), (.st (.pair (.st (.pair (.sl (.int .i64)) .bool)) (.sl (.int .i64))))]
abbrev rs_tens_Same : List Slot := [.data .bool]
abbrev cs_tens_Same (N : Nat) : List CallSpec := [c_slices_Equal_int_int N, c_shape_Same N]
noncomputable abbrev b_tens_Same : Code := (Go.Proofs.Tryd.f15.body).getD .skip

def F_tens_Same (N : Nat) (a_0 : ((List Int × Bool) × List Int)) (b_1 : ((List Int × Bool) × List Int)) : Option (Bool × Unit) :=
  Option.bind (F_shape_Same N (a_0).1 (b_1).1) fun y0 =>
  cond (y0).1
    (
    Option.bind (F_slices_Equal_int_int N (a_0).2 (b_1).2) fun y1 =>
    some y1)
    (
    some (false, ()))

abbrev c_tens_Same (N : Nat) : CallSpec := ⟨15, ps_tens_Same, rs_tens_Same, fun x => F_tens_Same N x.1 x.2.1⟩

theorem cs_tens_Same_ok (S : Nat → Addr) (N : Nat) : CallsOK Go.Proofs.Tryd.prog E S (cs_tens_Same N) :=
  .cons (F_slices_Equal_int_int_ok S N) (.cons (F_shape_Same_ok S N) (.nil))
theorem F_tens_Same_ok (S : Nat → Addr) (N : Nat) : ∀ x y, (c_tens_Same N).g x = some y → FCon Go.Proofs.Tryd.prog E S 15 ps_tens_Same rs_tens_Same x y := by
  intro x y h
  exact fun_spec E_ok mixed (cs_tens_Same_ok S N) (f := 15) (fi := ⟨b_tens_Same, 17, Go.Proofs.Tryd.f15.results.toList⟩) (by kernel_rfl) (ls := []) (.nil) (by kernel_rfl) (ps := ps_tens_Same) (rs := rs_tens_Same) (Eq.trans (b := F_tens_Same N x.1 x.2.1) (by kernel_rfl) h)

/-! lodge/lodgelaw8.MatTurns -/

abbrev ps_lodgelaw8_MatTurns : List Ty := [(.int .i64), (.int .i64), (.int .i64), (.sl (.int .i64)), (.int .i64), (.int .i64)]
abbrev rs_lodgelaw8_MatTurns : List Slot := [.data .bool]
abbrev cs_lodgelaw8_MatTurns (N : Nat) : List CallSpec := [c_mat_Mul N, c_lodgelaw8_first N, c_lodgeworld_Number N, c_lodgelaw8_matrix N, c_lodgeref_Ints N, c_mat_Turn N, c_tens_Same N]
noncomputable abbrev b_lodgelaw8_MatTurns : Code := (Go.Proofs.Tryd.f5.body).getD .skip

def F_lodgelaw8_MatTurns (N : Nat) (m_0 : Int) (k_1 : Int) (n_2 : Int) (l_3 : List Int) (za_4 : Int) (zb_5 : Int) : Option (Bool × Unit) :=
  Option.bind (F_lodgelaw8_first N) fun y0 =>
  cond (Bool.not (y0).1)
    (
    some (false, ()))
    (
    cond (decide ((40 : Int) < (Nat.cast (List.length l_3) : Int)))
      (
      some y0)
      (
      cond (Bool.not (y0).1)
        (
        some y0)
        (
        Option.bind (F_lodgeworld_Number N m_0 (12 : Int)) fun y1 =>
        Option.bind (F_lodgeworld_Number N k_1 (12 : Int)) fun y2 =>
        Option.bind (F_lodgelaw8_matrix N (wi64 ((y1).1 + (1 : Int))) (wi64 ((y2).1 + (1 : Int))) l_3) fun y3 =>
        Option.bind (F_lodgeworld_Number N k_1 (12 : Int)) fun y4 =>
        Option.bind (F_lodgeworld_Number N n_2 (12 : Int)) fun y5 =>
        Option.bind (F_lodgeref_Ints N l_3) fun y6 =>
        cond (decide (((0 : Nat) + (List.length (y6).1)) = (List.length (y6).1)))
          (
          cond (decide ((((List.length (y6).1) + 1) * (8 + (1 : Nat))) ≤ Go.Eng.most))
            (
            cond (decide (((0 : Nat) + ((List.length (y6).1) + 1)) ≤ (List.length ((List.take (List.length (y6).1) (y6).1) ++ ((5 : Int) :: ([] : List Int))))))
              (
              Option.bind (F_lodgelaw8_matrix N (wi64 ((y4).1 + (1 : Int))) (wi64 ((y5).1 + (1 : Int))) (List.take ((List.length (y6).1) + 1) ((List.take (List.length (y6).1) (y6).1) ++ ((5 : Int) :: ([] : List Int))))) fun y7 =>
              Option.bind (F_lodgeworld_Number N za_4 (256 : Int)) fun y8 =>
              Option.bind (F_lodgeworld_Number N zb_5 (256 : Int)) fun y9 =>
              cond (decide (((0 : Nat) + (List.length ((y3).1).1)) ≤ (List.length ((y3).1).1)))
                (
                cond (decide (((0 : Nat) + (List.length ((((y3).1).2).2).1)) ≤ (List.length ((((y3).1).2).2).1)))
                  (
                  cond (decide (((0 : Nat) + (List.length ((y7).1).1)) ≤ (List.length ((y7).1).1)))
                    (
                    cond (decide (((0 : Nat) + (List.length ((((y7).1).2).2).1)) ≤ (List.length ((((y7).1).2).2).1)))
                      (
                      Option.bind (F_mat_Mul N (((List.take (List.length ((y3).1).1) ((y3).1).1), (((y3).1).2).1), (List.take (List.length ((((y3).1).2).2).1) ((((y3).1).2).2).1)) (((List.take (List.length ((y7).1).1) ((y7).1).1), (((y7).1).2).1), (List.take (List.length ((((y7).1).2).2).1) ((((y7).1).2).2).1)) (wi64 ((y8).1 - (128 : Int))) (wi64 ((y9).1 - (128 : Int)))) fun y10 =>
                      cond (decide (((0 : Nat) + (List.length ((y3).1).1)) ≤ (List.length ((y3).1).1)))
                        (
                        cond (decide (((0 : Nat) + (List.length ((((y3).1).2).2).1)) ≤ (List.length ((((y3).1).2).2).1)))
                          (
                          Option.bind (F_mat_Turn N (((List.take (List.length ((y3).1).1) ((y3).1).1), (((y3).1).2).1), (List.take (List.length ((((y3).1).2).2).1) ((((y3).1).2).2).1))) fun y11 =>
                          cond (decide (((0 : Nat) + (List.length ((y7).1).1)) ≤ (List.length ((y7).1).1)))
                            (
                            cond (decide (((0 : Nat) + (List.length ((((y7).1).2).2).1)) ≤ (List.length ((((y7).1).2).2).1)))
                              (
                              Option.bind (F_mat_Turn N (((List.take (List.length ((y7).1).1) ((y7).1).1), (((y7).1).2).1), (List.take (List.length ((((y7).1).2).2).1) ((((y7).1).2).2).1))) fun y12 =>
                              cond (Bool.not (Go.Eng.Er.isNil ((y10).2).1))
                                (
                                some (false, ()))
                                (
                                cond (Bool.not (Go.Eng.Er.isNil ((y11).2).1))
                                  (
                                  some (false, ()))
                                  (
                                  cond (Bool.not (Go.Eng.Er.isNil ((y12).2).1))
                                    (
                                    some (false, ()))
                                    (
                                    cond (decide (((0 : Nat) + (List.length ((y12).1).1)) ≤ (List.length ((y12).1).1)))
                                      (
                                      cond (decide (((0 : Nat) + (List.length ((((y12).1).2).2).1)) ≤ (List.length ((((y12).1).2).2).1)))
                                        (
                                        cond (decide (((0 : Nat) + (List.length ((y11).1).1)) ≤ (List.length ((y11).1).1)))
                                          (
                                          cond (decide (((0 : Nat) + (List.length ((((y11).1).2).2).1)) ≤ (List.length ((((y11).1).2).2).1)))
                                            (
                                            Option.bind (F_mat_Mul N (((List.take (List.length ((y12).1).1) ((y12).1).1), (((y12).1).2).1), (List.take (List.length ((((y12).1).2).2).1) ((((y12).1).2).2).1)) (((List.take (List.length ((y11).1).1) ((y11).1).1), (((y11).1).2).1), (List.take (List.length ((((y11).1).2).2).1) ((((y11).1).2).2).1)) (wi64 ((y9).1 - (128 : Int))) (wi64 ((y8).1 - (128 : Int)))) fun y13 =>
                                            cond (decide (((0 : Nat) + (List.length ((((y10).1).2).2).1)) ≤ (List.length ((((y10).1).2).2).1)))
                                              (
                                              Option.bind (F_mat_Turn N ((((y10).1).1, (((y10).1).2).1), (List.take (List.length ((((y10).1).2).2).1) ((((y10).1).2).2).1))) fun y14 =>
                                              cond (decide (((0 : Nat) + (List.length ((y11).1).1)) ≤ (List.length ((y11).1).1)))
                                                (
                                                cond (decide (((0 : Nat) + (List.length ((((y11).1).2).2).1)) ≤ (List.length ((((y11).1).2).2).1)))
                                                  (
                                                  Option.bind (F_mat_Turn N (((List.take (List.length ((y11).1).1) ((y11).1).1), (((y11).1).2).1), (List.take (List.length ((((y11).1).2).2).1) ((((y11).1).2).2).1))) fun y15 =>
                                                  cond (Go.Eng.Er.isNil ((y13).2).1)
                                                    (
                                                    cond (Go.Eng.Er.isNil ((y14).2).1)
                                                      (
                                                      cond (Go.Eng.Er.isNil ((y15).2).1)
                                                        (
                                                        cond (decide (((0 : Nat) + (List.length ((((y13).1).2).2).1)) ≤ (List.length ((((y13).1).2).2).1)))
                                                          (
                                                          cond (decide (((0 : Nat) + (List.length ((y14).1).1)) ≤ (List.length ((y14).1).1)))
                                                            (
                                                            cond (decide (((0 : Nat) + (List.length ((((y14).1).2).2).1)) ≤ (List.length ((((y14).1).2).2).1)))
                                                              (
                                                              Option.bind (F_tens_Same N ((((y13).1).1, (((y13).1).2).1), (List.take (List.length ((((y13).1).2).2).1) ((((y13).1).2).2).1)) (((List.take (List.length ((y14).1).1) ((y14).1).1), (((y14).1).2).1), (List.take (List.length ((((y14).1).2).2).1) ((((y14).1).2).2).1))) fun y16 =>
                                                              cond (y16).1
                                                                (
                                                                cond (decide (((0 : Nat) + (List.length ((y15).1).1)) ≤ (List.length ((y15).1).1)))
                                                                  (
                                                                  cond (decide (((0 : Nat) + (List.length ((((y15).1).2).2).1)) ≤ (List.length ((((y15).1).2).2).1)))
                                                                    (
                                                                    cond (decide (((0 : Nat) + (List.length ((y3).1).1)) ≤ (List.length ((y3).1).1)))
                                                                      (
                                                                      cond (decide (((0 : Nat) + (List.length ((((y3).1).2).2).1)) ≤ (List.length ((((y3).1).2).2).1)))
                                                                        (
                                                                        Option.bind (F_tens_Same N (((List.take (List.length ((y15).1).1) ((y15).1).1), (((y15).1).2).1), (List.take (List.length ((((y15).1).2).2).1) ((((y15).1).2).2).1)) (((List.take (List.length ((y3).1).1) ((y3).1).1), (((y3).1).2).1), (List.take (List.length ((((y3).1).2).2).1) ((((y3).1).2).2).1))) fun y17 =>
                                                                        some y17)
                                                                        (
                                                                        none))
                                                                      (
                                                                      none))
                                                                    (
                                                                    none))
                                                                  (
                                                                  none))
                                                                (
                                                                some (false, ())))
                                                              (
                                                              none))
                                                            (
                                                            none))
                                                          (
                                                          none))
                                                        (
                                                        some (false, ())))
                                                      (
                                                      some (false, ())))
                                                    (
                                                    some (false, ())))
                                                  (
                                                  none))
                                                (
                                                none))
                                              (
                                              none))
                                            (
                                            none))
                                          (
                                          none))
                                        (
                                        none))
                                      (
                                      none)))))
                              (
                              none))
                            (
                            none))
                          (
                          none))
                        (
                        none))
                      (
                      none))
                    (
                    none))
                  (
                  none))
                (
                none))
              (
              none))
            (
            none))
          (
          none))))

abbrev c_lodgelaw8_MatTurns (N : Nat) : CallSpec := ⟨5, ps_lodgelaw8_MatTurns, rs_lodgelaw8_MatTurns, fun x => F_lodgelaw8_MatTurns N x.1 x.2.1 x.2.2.1 x.2.2.2.1 x.2.2.2.2.1 x.2.2.2.2.2.1⟩

theorem cs_lodgelaw8_MatTurns_ok (S : Nat → Addr) (N : Nat) : CallsOK Go.Proofs.Tryd.prog E S (cs_lodgelaw8_MatTurns N) :=
  .cons (F_mat_Mul_ok S N) (.cons (F_lodgelaw8_first_ok S N) (.cons (F_lodgeworld_Number_ok S N) (.cons (F_lodgelaw8_matrix_ok S N) (.cons (F_lodgeref_Ints_ok S N) (.cons (F_mat_Turn_ok S N) (.cons (F_tens_Same_ok S N) (.nil)))))))
theorem F_lodgelaw8_MatTurns_ok (S : Nat → Addr) (N : Nat) : ∀ x y, (c_lodgelaw8_MatTurns N).g x = some y → FCon Go.Proofs.Tryd.prog E S 5 ps_lodgelaw8_MatTurns rs_lodgelaw8_MatTurns x y := by
  intro x y h
  exact fun_spec E_ok mixed (cs_lodgelaw8_MatTurns_ok S N) (f := 5) (fi := ⟨b_lodgelaw8_MatTurns, 130, Go.Proofs.Tryd.f5.results.toList⟩) (by kernel_rfl) (ls := []) (.nil) (by kernel_rfl) (ps := ps_lodgelaw8_MatTurns) (rs := rs_lodgelaw8_MatTurns) (Eq.trans (b := F_lodgelaw8_MatTurns N x.1 x.2.1 x.2.2.1 x.2.2.2.1 x.2.2.2.2.1 x.2.2.2.2.2.1) (by kernel_rfl) h)


end Go.Proofs.YtooocaciaflbdaaDoor.Lg
