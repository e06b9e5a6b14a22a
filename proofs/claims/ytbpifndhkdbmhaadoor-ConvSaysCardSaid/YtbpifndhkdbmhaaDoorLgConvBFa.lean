/-
  The functions of the seat's program, as plain functions.
-/
import Derived.Test.YtbpifndhkdbmhaaDoorLgConvBE
namespace Go.Proofs.YtbpifndhkdbmhaaDoor.Lg
open Go Go.Eng Go.Proofs
set_option maxRecDepth 100000

/-! lodge/shape.Valid -/

abbrev ps_shape_Valid : List Ty := [(.st (.pair (.sl (.int .i64)) .bool))]
abbrev rs_shape_Valid : List Slot := [.data .err]
abbrev cs_shape_Valid (N : Nat) : List CallSpec := []
noncomputable abbrev b_shape_Valid : Code := (Go.Proofs.Tryd.f37.body).getD .skip

abbrev h_shape_Valid_0 : List Slot := [.dead, .box [.d (.st (.pair (.sl (.int .i64)) .bool))], .dead, .data (.int .i64), .dead, .dead, .dead, .dead, .dead, .dead, .dead, .dead, .dead, .dead, .data (.sl (.int .i64)), .data (.int .i64), .data (.int .i64), .dead, .dead, .dead, .dead, .dead, .dead, .dead, .dead, .dead, .dead, .dead, .dead, .dead, .dead, .dead, .dead, .dead, .dead, .dead, .dead, .dead, .dead, .dead, .dead, .dead]
abbrev e_shape_Valid_0 : List (AX × List Slot) := [(AX.exit 0, [.dead, .box [.d (.st (.pair (.sl (.int .i64)) .bool))], .dead, .data (.int .i64), .dead, .dead, .dead, .dead, .dead, .dead, .dead, .dead, .dead, .dead, .dead, .dead, .dead, .dead, .dead, .dead, .dead, .dead, .dead, .dead, .dead, .dead, .dead, .dead, .dead, .dead, .dead, .dead, .dead, .dead, .dead, .dead, .dead, .dead, .dead, .dead, .dead, .dead]), (AX.ret, [.dead, .dead, .data .err, .dead, .dead, .dead, .dead, .dead, .dead, .dead, .dead, .dead, .dead, .dead, .dead, .dead, .dead, .dead, .dead, .dead, .dead, .dead, .dead, .dead, .dead, .dead, .dead, .dead, .dead, .dead, .dead, .dead, .dead, .dead, .dead, .dead, .dead, .dead, .dead, .dead, .dead, .dead])]
def g_shape_Valid_0 (N : Nat) : Nat → ((List Int × Bool) × Unit) → Int → List Int → Int → Int → Option (Sum (((List Int × Bool) × Unit) × (Int × Unit)) (Er × Unit))
  | 0, _, _, _, _, _ => none
  | n + 1, d_1, n_3, t_14, t_15, t_16 =>
    cond (decide (t_16 < t_15))
      (
      cond (decide ((0 : Int) ≤ t_16))
        (
        cond (decide ((Int.toNat t_16) < (List.length t_14)))
          (
          cond (decide ((List.getD t_14 (Int.toNat t_16) (0 : Int)) < (1 : Int)))
            (
            some (Sum.inr ((Go.Eng.Er.s ErrRange), ())))
            (
            cond (decide ((256 : Int) < (List.getD t_14 (Int.toNat t_16) (0 : Int))))
              (
              some (Sum.inr ((Go.Eng.Er.s ErrRange), ())))
              (
              (g_shape_Valid_0 N n d_1 n_3 t_14 t_15 (wi64 (t_16 + (1 : Int)))))))
          (
          none))
        (
        none))
      (
      some (Sum.inl (d_1, (n_3, ()))))

abbrev h_shape_Valid_1 : List Slot := [.dead, .dead, .dead, .data (.int .i64), .dead, .dead, .dead, .dead, .dead, .dead, .dead, .dead, .dead, .dead, .dead, .dead, .dead, .dead, .dead, .dead, .dead, .dead, .dead, .dead, .dead, .dead, .dead, .dead, .dead, .data (.sl (.int .i64)), .data (.int .i64), .data (.int .i64), .dead, .dead, .dead, .dead, .dead, .dead, .dead, .dead, .dead, .dead]
abbrev e_shape_Valid_1 : List (AX × List Slot) := [(AX.exit 2, [.dead, .dead, .dead, .dead, .dead, .dead, .dead, .dead, .dead, .dead, .dead, .dead, .dead, .dead, .dead, .dead, .dead, .dead, .dead, .dead, .dead, .dead, .dead, .dead, .dead, .dead, .dead, .dead, .dead, .dead, .dead, .dead, .dead, .dead, .dead, .dead, .dead, .dead, .dead, .dead, .dead, .dead]), (AX.ret, [.dead, .dead, .data .err, .dead, .dead, .dead, .dead, .dead, .dead, .dead, .dead, .dead, .dead, .dead, .dead, .dead, .dead, .dead, .dead, .dead, .dead, .dead, .dead, .dead, .dead, .dead, .dead, .dead, .dead, .dead, .dead, .dead, .dead, .dead, .dead, .dead, .dead, .dead, .dead, .dead, .dead, .dead])]
def g_shape_Valid_1 (N : Nat) : Nat → Int → List Int → Int → Int → Option (Sum Unit (Er × Unit))
  | 0, _, _, _, _ => none
  | n + 1, n_3, t_29, t_30, t_31 =>
    cond (decide (t_31 < t_30))
      (
      cond (decide ((0 : Int) ≤ t_31))
        (
        cond (decide ((Int.toNat t_31) < (List.length t_29)))
          (
          cond (decide ((16384 : Int) < (wi64 (n_3 * (List.getD t_29 (Int.toNat t_31) (0 : Int))))))
            (
            some (Sum.inr ((Go.Eng.Er.s ErrMany), ())))
            (
            (g_shape_Valid_1 N n (wi64 (n_3 * (List.getD t_29 (Int.toNat t_31) (0 : Int)))) t_29 t_30 (wi64 (t_31 + (1 : Int))))))
          (
          none))
        (
        none))
      (
      some (Sum.inl ()))

def F_shape_Valid (N : Nat) (d_0 : (List Int × Bool)) : Option (Er × Unit) :=
  cond (decide ((4 : Int) < (Nat.cast (List.length (d_0).1) : Int)))
    (
    some ((Go.Eng.Er.s ErrMany), ()))
    (
    Option.bind (g_shape_Valid_0 N N (d_0, ()) (1 : Int) (d_0).1 (Nat.cast (List.length (d_0).1) : Int) (0 : Int)) fun y0 =>
    Sum.elim (fun y1 =>
      Option.bind (g_shape_Valid_1 N N ((y1).2).1 (((y1).1).1).1 (Nat.cast (List.length (((y1).1).1).1) : Int) (0 : Int)) fun y2 =>
      Sum.elim (fun y3 =>
        some (Go.Eng.Er.nil, ()))
        (fun y4 =>
        some y4) y2)
      (fun y5 =>
      some y5) y0)

abbrev c_shape_Valid (N : Nat) : CallSpec := ⟨37, ps_shape_Valid, rs_shape_Valid, fun x => F_shape_Valid N x.1⟩
abbrev l_shape_Valid_1 (N : Nat) : LoopSpec := ⟨1, h_shape_Valid_1, e_shape_Valid_1, fun x => g_shape_Valid_1 N N x.1 x.2.1 x.2.2.1 x.2.2.2.1⟩
abbrev l_shape_Valid_0 (N : Nat) : LoopSpec := ⟨0, h_shape_Valid_0, e_shape_Valid_0, fun x => g_shape_Valid_0 N N x.1 x.2.1 x.2.2.1 x.2.2.2.1 x.2.2.2.2.1⟩

theorem cs_shape_Valid_ok (S : Nat → Addr) (N : Nat) : CallsOK Go.Proofs.Tryd.prog E S (cs_shape_Valid N) :=
  .nil
noncomputable abbrev b_shape_Valid_1 : Code := (loopsOf b_shape_Valid).getD 1 .skip
theorem g_shape_Valid_1_ok (S : Nat → Addr) (N : Nat) : ∀ n x y, (fun (x : Val (slotsTy h_shape_Valid_1)) => g_shape_Valid_1 N n x.1 x.2.1 x.2.2.1 x.2.2.2.1) x = some y → LoopCon Go.Proofs.Tryd.prog E S b_shape_Valid_1 (encSlots h_shape_Valid_1 x) (encEx e_shape_Valid_1 y).1 (encEx e_shape_Valid_1 y).2 :=
  loop_spec E_ok mixed (cs_shape_Valid_ok S N) (all := loopsOf b_shape_Valid) (ls := []) (.nil) (i := 1) (by kernel_rfl) (inner_of (by kernel_rfl)) (head := h_shape_Valid_1) (ex := e_shape_Valid_1) (fun n (x : Val (slotsTy h_shape_Valid_1)) => g_shape_Valid_1 N n x.1 x.2.1 x.2.2.1 x.2.2.2.1) (fun _ => rfl) (fun n x => by kernel_rfl)
noncomputable abbrev b_shape_Valid_0 : Code := (loopsOf b_shape_Valid).getD 0 .skip
theorem g_shape_Valid_0_ok (S : Nat → Addr) (N : Nat) : ∀ n x y, (fun (x : Val (slotsTy h_shape_Valid_0)) => g_shape_Valid_0 N n x.1 x.2.1 x.2.2.1 x.2.2.2.1 x.2.2.2.2.1) x = some y → LoopCon Go.Proofs.Tryd.prog E S b_shape_Valid_0 (encSlots h_shape_Valid_0 x) (encEx e_shape_Valid_0 y).1 (encEx e_shape_Valid_0 y).2 :=
  loop_spec E_ok mixed (cs_shape_Valid_ok S N) (all := loopsOf b_shape_Valid) (ls := []) (.nil) (i := 0) (by kernel_rfl) (inner_of (by kernel_rfl)) (head := h_shape_Valid_0) (ex := e_shape_Valid_0) (fun n (x : Val (slotsTy h_shape_Valid_0)) => g_shape_Valid_0 N n x.1 x.2.1 x.2.2.1 x.2.2.2.1 x.2.2.2.2.1) (fun _ => rfl) (fun n x => by kernel_rfl)
theorem F_shape_Valid_ok (S : Nat → Addr) (N : Nat) : ∀ x y, (c_shape_Valid N).g x = some y → FCon Go.Proofs.Tryd.prog E S 37 ps_shape_Valid rs_shape_Valid x y := by
  intro x y h
  exact fun_spec E_ok mixed (cs_shape_Valid_ok S N) (f := 37) (fi := ⟨b_shape_Valid, 42, Go.Proofs.Tryd.f37.results.toList⟩) (by kernel_rfl) (ls := [l_shape_Valid_1 N, l_shape_Valid_0 N]) (.cons (by kernel_rfl) (g_shape_Valid_1_ok S N N) (.cons (by kernel_rfl) (g_shape_Valid_0_ok S N N) (.nil))) (by kernel_rfl) (ps := ps_shape_Valid) (rs := rs_shape_Valid) (Eq.trans (b := F_shape_Valid N x.1) (by kernel_rfl) h)

/-! lodge/shape.fair -/

abbrev ps_shape_fair : List Ty := [(.sl (.int .i64))]
abbrev rs_shape_fair : List Slot := [.data .bool]
abbrev cs_shape_fair (N : Nat) : List CallSpec := [c_shape_Valid N]
noncomputable abbrev b_shape_fair : Code := (Go.Proofs.Tryd.f60.body).getD .skip

def F_shape_fair (N : Nat) (shape_0 : List Int) : Option (Bool × Unit) :=
  Option.bind (F_shape_Valid N (shape_0, false)) fun y0 =>
  some ((Go.Eng.Er.isNil (y0).1), ())

abbrev c_shape_fair (N : Nat) : CallSpec := ⟨60, ps_shape_fair, rs_shape_fair, fun x => F_shape_fair N x.1⟩

theorem cs_shape_fair_ok (S : Nat → Addr) (N : Nat) : CallsOK Go.Proofs.Tryd.prog E S (cs_shape_fair N) :=
  .cons (F_shape_Valid_ok S N) (.nil)
theorem F_shape_fair_ok (S : Nat → Addr) (N : Nat) : ∀ x y, (c_shape_fair N).g x = some y → FCon Go.Proofs.Tryd.prog E S 60 ps_shape_fair rs_shape_fair x y := by
  intro x y h
  exact fun_spec E_ok mixed (cs_shape_fair_ok S N) (f := 60) (fi := ⟨b_shape_fair, 7, Go.Proofs.Tryd.f60.results.toList⟩) (by kernel_rfl) (ls := []) (.nil) (by kernel_rfl) (ps := ps_shape_fair) (rs := rs_shape_fair) (Eq.trans (b := F_shape_fair N x.1) (by kernel_rfl) h)

/-! lodge/shape.Elems -/

abbrev ps_shape_Elems : List Ty := [(.sl (.int .i64))]
abbrev rs_shape_Elems : List Slot := [.data (.int .i64)]
abbrev cs_shape_Elems (N : Nat) : List CallSpec := [c_shape_fair N]
noncomputable abbrev b_shape_Elems : Code := (Go.Proofs.Tryd.f33.body).getD .skip

abbrev h_shape_Elems_0 : List Slot := [.dead, .dead, .dead, .data (.int .i64), .dead, .dead, .dead, .dead, .dead, .data (.sl (.int .i64)), .data (.int .i64), .data (.int .i64), .dead, .dead, .dead, .dead, .dead, .dead, .dead, .dead]
abbrev e_shape_Elems_0 : List (AX × List Slot) := [(AX.exit 0, [.dead, .dead, .dead, .data (.int .i64), .dead, .dead, .dead, .dead, .dead, .dead, .dead, .dead, .dead, .dead, .dead, .dead, .dead, .dead, .dead, .dead])]
def g_shape_Elems_0 (N : Nat) : Nat → Int → List Int → Int → Int → Option (Int × Unit)
  | 0, _, _, _, _ => none
  | n + 1, n_3, t_9, t_10, t_11 =>
    cond (decide (t_11 < t_10))
      (
      cond (decide ((0 : Int) ≤ t_11))
        (
        cond (decide ((Int.toNat t_11) < (List.length t_9)))
          (
          (g_shape_Elems_0 N n (wi64 (n_3 * (List.getD t_9 (Int.toNat t_11) (0 : Int)))) t_9 t_10 (wi64 (t_11 + (1 : Int)))))
          (
          none))
        (
        none))
      (
      some (n_3, ()))

def F_shape_Elems (N : Nat) (shape_0 : List Int) : Option (Int × Unit) :=
  Option.bind (F_shape_fair N shape_0) fun y0 =>
  cond (Bool.not (y0).1)
    (
    some ((0 : Int), ()))
    (
    Option.bind (g_shape_Elems_0 N N (1 : Int) shape_0 (Nat.cast (List.length shape_0) : Int) (0 : Int)) fun y1 =>
    some y1)

abbrev c_shape_Elems (N : Nat) : CallSpec := ⟨33, ps_shape_Elems, rs_shape_Elems, fun x => F_shape_Elems N x.1⟩
abbrev l_shape_Elems_0 (N : Nat) : LoopSpec := ⟨0, h_shape_Elems_0, e_shape_Elems_0, fun x => g_shape_Elems_0 N N x.1 x.2.1 x.2.2.1 x.2.2.2.1⟩

theorem cs_shape_Elems_ok (S : Nat → Addr) (N : Nat) : CallsOK Go.Proofs.Tryd.prog E S (cs_shape_Elems N) :=
  .cons (F_shape_fair_ok S N) (.nil)
noncomputable abbrev b_shape_Elems_0 : Code := (loopsOf b_shape_Elems).getD 0 .skip
theorem g_shape_Elems_0_ok (S : Nat → Addr) (N : Nat) : ∀ n x y, (fun (x : Val (slotsTy h_shape_Elems_0)) => g_shape_Elems_0 N n x.1 x.2.1 x.2.2.1 x.2.2.2.1) x = some y → LoopCon Go.Proofs.Tryd.prog E S b_shape_Elems_0 (encSlots h_shape_Elems_0 x) (encEx e_shape_Elems_0 y).1 (encEx e_shape_Elems_0 y).2 :=
  loop_spec E_ok mixed (cs_shape_Elems_ok S N) (all := loopsOf b_shape_Elems) (ls := []) (.nil) (i := 0) (by kernel_rfl) (inner_of (by kernel_rfl)) (head := h_shape_Elems_0) (ex := e_shape_Elems_0) (fun n (x : Val (slotsTy h_shape_Elems_0)) => g_shape_Elems_0 N n x.1 x.2.1 x.2.2.1 x.2.2.2.1) (fun _ => rfl) (fun n x => by kernel_rfl)
theorem F_shape_Elems_ok (S : Nat → Addr) (N : Nat) : ∀ x y, (c_shape_Elems N).g x = some y → FCon Go.Proofs.Tryd.prog E S 33 ps_shape_Elems rs_shape_Elems x y := by
  intro x y h
  exact fun_spec E_ok mixed (cs_shape_Elems_ok S N) (f := 33) (fi := ⟨b_shape_Elems, 20, Go.Proofs.Tryd.f33.results.toList⟩) (by kernel_rfl) (ls := [l_shape_Elems_0 N]) (.cons (by kernel_rfl) (g_shape_Elems_0_ok S N N) (.nil)) (by kernel_rfl) (ps := ps_shape_Elems) (rs := rs_shape_Elems) (Eq.trans (b := F_shape_Elems N x.1) (by kernel_rfl) h)

/-! lodge/tens.fits -/

abbrev ps_tens_fits : List Ty := [(.int .i64), .bool]
abbrev rs_tens_fits : List Slot := [.data .bool]
abbrev cs_tens_fits (N : Nat) : List CallSpec := []
noncomputable abbrev b_tens_fits : Code := (Go.Proofs.Tryd.f78.body).getD .skip

def F_tens_fits (N : Nat) (n_0 : Int) (wide_1 : Bool) : Option (Bool × Unit) :=
  cond wide_1
    (
    cond (decide ((-(2147483648 : Int)) ≤ n_0))
      (
      some ((decide (n_0 ≤ (2147483647 : Int))), ()))
      (
      some (false, ())))
    (
    cond (decide ((-(128 : Int)) ≤ n_0))
      (
      some ((decide (n_0 ≤ (127 : Int))), ()))
      (
      some (false, ())))

abbrev c_tens_fits (N : Nat) : CallSpec := ⟨78, ps_tens_fits, rs_tens_fits, fun x => F_tens_fits N x.1 x.2.1⟩

theorem cs_tens_fits_ok (S : Nat → Addr) (N : Nat) : CallsOK Go.Proofs.Tryd.prog E S (cs_tens_fits N) :=
  .nil
theorem F_tens_fits_ok (S : Nat → Addr) (N : Nat) : ∀ x y, (c_tens_fits N).g x = some y → FCon Go.Proofs.Tryd.prog E S 78 ps_tens_fits rs_tens_fits x y := by
  intro x y h
  exact fun_spec E_ok mixed (cs_tens_fits_ok S N) (f := 78) (fi := ⟨b_tens_fits, 18, Go.Proofs.Tryd.f78.results.toList⟩) (by kernel_rfl) (ls := []) (.nil) (by kernel_rfl) (ps := ps_tens_fits) (rs := rs_tens_fits) (Eq.trans (b := F_tens_fits N x.1 x.2.1) (by kernel_rfl) h)

/-! lodge/tens.Valid -/

abbrev ps_tens_Valid : List Ty := [(.st (.pair (.st (.pair (.sl (.int .i64)) .bool)) (.sl (.int .i64))))]
abbrev rs_tens_Valid : List Slot := [.data .err]
abbrev cs_tens_Valid (N : Nat) : List CallSpec := [c_shape_Valid N, c_shape_Elems N, c_tens_fits N]
noncomputable abbrev b_tens_Valid : Code := (Go.Proofs.Tryd.f59.body).getD .skip

abbrev h_tens_Valid_0 : List Slot := [.dead, .box [.d (.st (.pair (.st (.pair (.sl (.int .i64)) .bool)) (.sl (.int .i64))))], .dead, .dead, .dead, .dead, .dead, .dead, .dead, .dead, .dead, .dead, .dead, .dead, .dead, .dead, .dead, .dead, .dead, .dead, .dead, .dead, .data (.sl (.int .i64)), .data (.int .i64), .data (.int .i64), .dead, .dead, .dead, .dead, .dead, .dead, .dead, .dead, .dead, .dead, .dead, .dead, .dead, .dead, .dead, .dead]
abbrev e_tens_Valid_0 : List (AX × List Slot) := [(AX.exit 0, [.dead, .dead, .dead, .dead, .dead, .dead, .dead, .dead, .dead, .dead, .dead, .dead, .dead, .dead, .dead, .dead, .dead, .dead, .dead, .dead, .dead, .dead, .dead, .dead, .dead, .dead, .dead, .dead, .dead, .dead, .dead, .dead, .dead, .dead, .dead, .dead, .dead, .dead, .dead, .dead, .dead]), (AX.ret, [.dead, .dead, .data .err, .dead, .dead, .dead, .dead, .dead, .dead, .dead, .dead, .dead, .dead, .dead, .dead, .dead, .dead, .dead, .dead, .dead, .dead, .dead, .dead, .dead, .dead, .dead, .dead, .dead, .dead, .dead, .dead, .dead, .dead, .dead, .dead, .dead, .dead, .dead, .dead, .dead, .dead])]
def g_tens_Valid_0 (N : Nat) : Nat → (((List Int × Bool) × List Int) × Unit) → List Int → Int → Int → Option (Sum Unit (Er × Unit))
  | 0, _, _, _, _ => none
  | n + 1, t_1, t_22, t_23, t_24 =>
    cond (decide (t_24 < t_23))
      (
      cond (decide ((0 : Int) ≤ t_24))
        (
        cond (decide ((Int.toNat t_24) < (List.length t_22)))
          (
          Option.bind (F_tens_fits N (List.getD t_22 (Int.toNat t_24) (0 : Int)) (((t_1).1).1).2) fun y3 =>
          cond (Bool.not (y3).1)
            (
            some (Sum.inr ((Go.Eng.Er.at t_24 ErrRange), ())))
            (
            (g_tens_Valid_0 N n t_1 t_22 t_23 (wi64 (t_24 + (1 : Int))))))
          (
          none))
        (
        none))
      (
      some (Sum.inl ()))

def F_tens_Valid (N : Nat) (t_0 : ((List Int × Bool) × List Int)) : Option (Er × Unit) :=
  Option.bind (F_shape_Valid N (t_0).1) fun y0 =>
  cond (Bool.not (Go.Eng.Er.isNil (y0).1))
    (
    some y0)
    (
    Option.bind (F_shape_Elems N ((t_0).1).1) fun y1 =>
    cond (decide (@Ne Int (Nat.cast (List.length (t_0).2) : Int) (y1).1))
      (
      some ((Go.Eng.Er.s ErrShape), ()))
      (
      Option.bind (g_tens_Valid_0 N N (t_0, ()) (t_0).2 (Nat.cast (List.length (t_0).2) : Int) (0 : Int)) fun y2 =>
      Sum.elim (fun y3 =>
        some (Go.Eng.Er.nil, ()))
        (fun y4 =>
        some y4) y2))

abbrev c_tens_Valid (N : Nat) : CallSpec := ⟨59, ps_tens_Valid, rs_tens_Valid, fun x => F_tens_Valid N x.1⟩
abbrev l_tens_Valid_0 (N : Nat) : LoopSpec := ⟨0, h_tens_Valid_0, e_tens_Valid_0, fun x => g_tens_Valid_0 N N x.1 x.2.1 x.2.2.1 x.2.2.2.1⟩

theorem cs_tens_Valid_ok (S : Nat → Addr) (N : Nat) : CallsOK Go.Proofs.Tryd.prog E S (cs_tens_Valid N) :=
  .cons (F_shape_Valid_ok S N) (.cons (F_shape_Elems_ok S N) (.cons (F_tens_fits_ok S N) (.nil)))
noncomputable abbrev b_tens_Valid_0 : Code := (loopsOf b_tens_Valid).getD 0 .skip
theorem g_tens_Valid_0_ok (S : Nat → Addr) (N : Nat) : ∀ n x y, (fun (x : Val (slotsTy h_tens_Valid_0)) => g_tens_Valid_0 N n x.1 x.2.1 x.2.2.1 x.2.2.2.1) x = some y → LoopCon Go.Proofs.Tryd.prog E S b_tens_Valid_0 (encSlots h_tens_Valid_0 x) (encEx e_tens_Valid_0 y).1 (encEx e_tens_Valid_0 y).2 :=
  loop_spec E_ok mixed (cs_tens_Valid_ok S N) (all := loopsOf b_tens_Valid) (ls := []) (.nil) (i := 0) (by kernel_rfl) (inner_of (by kernel_rfl)) (head := h_tens_Valid_0) (ex := e_tens_Valid_0) (fun n (x : Val (slotsTy h_tens_Valid_0)) => g_tens_Valid_0 N n x.1 x.2.1 x.2.2.1 x.2.2.2.1) (fun _ => rfl) (fun n x => by kernel_rfl)
theorem F_tens_Valid_ok (S : Nat → Addr) (N : Nat) : ∀ x y, (c_tens_Valid N).g x = some y → FCon Go.Proofs.Tryd.prog E S 59 ps_tens_Valid rs_tens_Valid x y := by
  intro x y h
  exact fun_spec E_ok mixed (cs_tens_Valid_ok S N) (f := 59) (fi := ⟨b_tens_Valid, 41, Go.Proofs.Tryd.f59.results.toList⟩) (by kernel_rfl) (ls := [l_tens_Valid_0 N]) (.cons (by kernel_rfl) (g_tens_Valid_0_ok S N N) (.nil)) (by kernel_rfl) (ps := ps_tens_Valid) (rs := rs_tens_Valid) (Eq.trans (b := F_tens_Valid N x.1) (by kernel_rfl) h)

/-! lodge/tens.Narrow -/

abbrev ps_tens_Narrow : List Ty := [(.int .i64)]
abbrev rs_tens_Narrow : List Slot := [.data (.int .i64)]
abbrev cs_tens_Narrow (N : Nat) : List CallSpec := []
noncomputable abbrev b_tens_Narrow : Code := (Go.Proofs.Tryd.f38.body).getD .skip

def F_tens_Narrow (N : Nat) (n_0 : Int) : Option (Int × Unit) :=
  some ((Go.Eng.imax (-(128 : Int)) (Go.Eng.imin n_0 (127 : Int))), ())

abbrev c_tens_Narrow (N : Nat) : CallSpec := ⟨38, ps_tens_Narrow, rs_tens_Narrow, fun x => F_tens_Narrow N x.1⟩

theorem cs_tens_Narrow_ok (S : Nat → Addr) (N : Nat) : CallsOK Go.Proofs.Tryd.prog E S (cs_tens_Narrow N) :=
  .nil
theorem F_tens_Narrow_ok (S : Nat → Addr) (N : Nat) : ∀ x y, (c_tens_Narrow N).g x = some y → FCon Go.Proofs.Tryd.prog E S 38 ps_tens_Narrow rs_tens_Narrow x y := by
  intro x y h
  exact fun_spec E_ok mixed (cs_tens_Narrow_ok S N) (f := 38) (fi := ⟨b_tens_Narrow, 6, Go.Proofs.Tryd.f38.results.toList⟩) (by kernel_rfl) (ls := []) (.nil) (by kernel_rfl) (ps := ps_tens_Narrow) (rs := rs_tens_Narrow) (Eq.trans (b := F_tens_Narrow N x.1) (by kernel_rfl) h)

/-! lodge/conv.Result -/

abbrev ps_conv_Result : List Ty := [(.sl (.int .i64)), (.st (.pair (.sl (.int .i64)) .bool)), (.st (.pair (.sl (.int .i64)) .bool))]
abbrev rs_conv_Result : List Slot := [.data (.st (.pair (.sl (.int .i64)) .bool)), .data .err]
abbrev cs_conv_Result (N : Nat) : List CallSpec := [c_shape_Valid N, c_tens_Narrow N]
noncomputable abbrev b_conv_Result : Code := (Go.Proofs.Tryd.f16.body).getD .skip

abbrev h_conv_Result_0 : List Slot := [.data (.sl (.int .i64)), .dead, .dead, .dead, .box [.d (.st (.pair (.sl (.int .i64)) .bool))], .box [.d (.st (.pair (.sl (.int .i64)) .bool))], .box [.sl (.int .i64), .d .bool], .dead, .dead, .dead, .dead, .dead, .dead, .dead, .dead, .dead, .dead, .dead, .dead, .dead, .dead, .dead, .dead, .dead, .dead, .sl (.st (.pair (.sl (.int .i64)) .bool)), .data (.int .i64), .data (.int .i64), .dead, .dead, .dead, .dead, .dead, .dead, .dead, .dead, .dead, .dead, .dead, .dead, .dead, .dead, .dead, .dead, .dead, .dead, .dead, .dead, .dead, .dead, .dead, .dead, .dead, .dead, .dead, .dead, .dead, .dead, .dead, .dead, .dead, .dead, .dead, .dead, .dead, .dead, .dead, .dead, .dead, .dead, .dead, .dead, .dead, .dead, .dead, .dead, .dead, .dead, .dead, .dead, .dead, .dead, .dead, .dead, .dead, .dead, .dead, .dead, .dead, .dead, .dead, .dead, .dead, .dead, .dead, .dead, .dead, .dead, .dead, .dead, .dead, .dead, .dead, .dead, .dead, .dead, .dead, .dead, .dead, .dead, .dead, .dead, .dead, .dead, .dead, .dead, .dead, .dead, .dead, .dead, .dead, .dead, .dead, .dead, .dead, .dead, .dead, .dead, .dead, .dead, .dead, .dead, .dead, .dead, .dead, .dead, .dead, .dead, .dead, .dead, .dead, .dead, .dead, .dead, .dead, .dead, .dead, .dead, .dead, .dead, .dead, .dead, .dead]
abbrev e_conv_Result_0 : List (AX × List Slot) := [(AX.exit 0, [.data (.sl (.int .i64)), .dead, .dead, .dead, .box [.d (.st (.pair (.sl (.int .i64)) .bool))], .box [.d (.st (.pair (.sl (.int .i64)) .bool))], .box [.sl (.int .i64), .d .bool], .dead, .dead, .dead, .dead, .dead, .dead, .dead, .dead, .dead, .dead, .dead, .dead, .dead, .dead, .dead, .dead, .dead, .dead, .dead, .dead, .dead, .dead, .dead, .dead, .dead, .dead, .dead, .dead, .dead, .dead, .dead, .dead, .dead, .dead, .dead, .dead, .dead, .dead, .dead, .dead, .dead, .dead, .dead, .dead, .dead, .dead, .dead, .dead, .dead, .dead, .dead, .dead, .dead, .dead, .dead, .dead, .dead, .dead, .dead, .dead, .dead, .dead, .dead, .dead, .dead, .dead, .dead, .dead, .dead, .dead, .dead, .dead, .dead, .dead, .dead, .dead, .dead, .dead, .dead, .dead, .dead, .dead, .dead, .dead, .dead, .dead, .dead, .dead, .dead, .dead, .dead, .dead, .dead, .dead, .dead, .dead, .dead, .dead, .dead, .dead, .dead, .dead, .dead, .dead, .dead, .dead, .dead, .dead, .dead, .dead, .dead, .dead, .dead, .dead, .dead, .dead, .dead, .dead, .dead, .dead, .dead, .dead, .dead, .dead, .dead, .dead, .dead, .dead, .dead, .dead, .dead, .dead, .dead, .dead, .dead, .dead, .dead, .dead, .dead, .dead, .dead, .dead, .dead, .dead, .dead, .dead]), (AX.ret, [.dead, .dead, .dead, .dead, .dead, .dead, .box [.sl (.int .i64), .d .bool], .data .err, .dead, .dead, .dead, .dead, .dead, .dead, .dead, .dead, .dead, .dead, .dead, .dead, .dead, .dead, .dead, .dead, .dead, .dead, .dead, .dead, .dead, .dead, .dead, .dead, .dead, .dead, .dead, .dead, .dead, .dead, .dead, .dead, .dead, .dead, .dead, .dead, .dead, .dead, .dead, .dead, .dead, .dead, .dead, .dead, .dead, .dead, .dead, .dead, .dead, .dead, .dead, .dead, .dead, .dead, .dead, .dead, .dead, .dead, .dead, .dead, .dead, .dead, .dead, .dead, .dead, .dead, .dead, .dead, .dead, .dead, .dead, .dead, .dead, .dead, .dead, .dead, .dead, .dead, .dead, .dead, .dead, .dead, .dead, .dead, .dead, .dead, .dead, .dead, .dead, .dead, .dead, .dead, .dead, .dead, .dead, .dead, .dead, .dead, .dead, .dead, .dead, .dead, .dead, .dead, .dead, .dead, .dead, .dead, .dead, .dead, .dead, .dead, .dead, .dead, .dead, .dead, .dead, .dead, .dead, .dead, .dead, .dead, .dead, .dead, .dead, .dead, .dead, .dead, .dead, .dead, .dead, .dead, .dead, .dead, .dead, .dead, .dead, .dead, .dead, .dead, .dead, .dead, .dead, .dead, .dead])]
def g_conv_Result_0 (N : Nat) : Nat → List Int → ((List Int × Bool) × Unit) → ((List Int × Bool) × Unit) → (List Int × (Bool × Unit)) → List ((List Int × Bool)) → Int → Int → Option (Sum (List Int × (((List Int × Bool) × Unit) × (((List Int × Bool) × Unit) × ((List Int × (Bool × Unit)) × Unit)))) ((List Int × (Bool × Unit)) × (Er × Unit)))
  | 0, _, _, _, _, _, _, _ => none
  | n + 1, args_0, a_4, k_5, t_6, t_25, t_26, t_27 =>
    cond (decide (t_27 < t_26))
      (
      cond (decide ((0 : Int) ≤ t_27))
        (
        cond (decide ((Int.toNat t_27) < (List.length t_25)))
          (
          cond (decide (((0 : Nat) + (Int.toNat t_27)) < (List.length t_25)))
            (
            Option.bind (F_shape_Valid N (List.getD t_25 ((0 : Nat) + (Int.toNat t_27)) (([] : List Int), false))) fun y1 =>
            cond (Bool.not (Go.Eng.Er.isNil (y1).1))
              (
              some (Sum.inr ((([] : List Int), (false, ())), y1)))
              (
              cond (decide ((List.length (t_6).1) = (List.length (t_6).1)))
                (
                cond (decide ((List.length t_25) = (List.length t_25)))
                  (
                  (g_conv_Result_0 N n args_0 a_4 k_5 t_6 t_25 t_26 (wi64 (t_27 + (1 : Int)))))
                  (
                  none))
                (
                none)))
            (
            none))
          (
          none))
        (
        none))
      (
      cond (decide ((List.length (t_6).1) = (List.length (t_6).1)))
        (
        some (Sum.inl (args_0, (a_4, (k_5, (t_6, ()))))))
        (
        none))

abbrev j_conv_Result : Joins := [(15, [(AX.normal, [.dead, .dead, .dead, .dead, .dead, .box [.d (.st (.pair (.sl (.int .i64)) .bool))], .box [.sl (.int .i64), .d .bool], .dead, .dead, .dead, .dead, .data (.int .i64), .dead, .dead, .data (.int .i64), .data (.int .i64), .dead, .dead, .dead, .dead, .dead, .dead, .dead, .dead, .dead, .dead, .dead, .dead, .dead, .dead, .dead, .dead, .dead, .dead, .dead, .dead, .dead, .dead, .dead, .dead, .dead, .dead, .dead, .dead, .dead, .dead, .dead, .dead, .dead, .dead, .dead, .dead, .dead, .dead, .dead, .dead, .dead, .dead, .dead, .dead, .dead, .dead, .dead, .dead, .dead, .dead, .dead, .dead, .dead, .dead, .dead, .dead, .dead, .dead, .dead, .dead, .dead, .dead, .dead, .dead, .dead, .dead, .dead, .dead, .dead, .dead, .dead, .dead, .dead, .dead, .dead, .dead, .dead, .dead, .dead, .dead, .dead, .dead, .dead, .dead, .dead, .dead, .dead, .dead, .dead, .dead, .dead, .dead, .dead, .dead, .dead, .dead, .dead, .dead, .dead, .dead, .dead, .dead, .dead, .dead, .dead, .dead, .dead, .dead, .dead, .dead, .dead, .dead, .dead, .data .bool, .dead, .dead, .dead, .dead, .dead, .dead, .dead, .dead, .dead, .dead, .dead, .dead, .dead, .dead, .dead, .dead, .dead, .dead, .dead, .dead, .dead, .dead, .dead])]),
  (11, [(AX.normal, [.dead, .dead, .dead, .dead, .box [.d (.st (.pair (.sl (.int .i64)) .bool))], .box [.d (.st (.pair (.sl (.int .i64)) .bool))], .box [.sl (.int .i64), .d .bool], .dead, .dead, .dead, .dead, .data (.int .i64), .data (.int .i64), .dead, .dead, .dead, .dead, .dead, .dead, .dead, .dead, .dead, .dead, .dead, .dead, .dead, .dead, .dead, .dead, .dead, .dead, .dead, .dead, .dead, .dead, .dead, .dead, .dead, .dead, .dead, .dead, .dead, .dead, .dead, .dead, .dead, .dead, .dead, .dead, .dead, .dead, .dead, .dead, .dead, .dead, .dead, .dead, .dead, .dead, .dead, .dead, .dead, .dead, .dead, .dead, .dead, .dead, .dead, .dead, .dead, .dead, .dead, .dead, .dead, .dead, .dead, .dead, .dead, .dead, .dead, .dead, .dead, .dead, .dead, .dead, .dead, .dead, .dead, .dead, .dead, .dead, .dead, .dead, .dead, .dead, .dead, .dead, .data .bool, .dead, .dead, .dead, .dead, .dead, .dead, .dead, .dead, .dead, .dead, .dead, .dead, .dead, .dead, .dead, .dead, .dead, .dead, .dead, .dead, .dead, .dead, .dead, .dead, .dead, .dead, .dead, .dead, .dead, .dead, .dead, .dead, .dead, .dead, .dead, .dead, .dead, .dead, .dead, .dead, .dead, .dead, .dead, .dead, .dead, .dead, .dead, .dead, .dead, .dead, .dead, .dead, .dead, .dead, .dead])]),
  (7, [(AX.normal, [.data (.sl (.int .i64)), .dead, .dead, .dead, .box [.d (.st (.pair (.sl (.int .i64)) .bool))], .box [.d (.st (.pair (.sl (.int .i64)) .bool))], .box [.sl (.int .i64), .d .bool], .dead, .dead, .dead, .dead, .dead, .dead, .dead, .dead, .dead, .dead, .dead, .dead, .dead, .dead, .dead, .dead, .dead, .dead, .dead, .dead, .dead, .dead, .dead, .dead, .dead, .dead, .dead, .dead, .dead, .dead, .dead, .dead, .dead, .dead, .dead, .dead, .dead, .dead, .dead, .dead, .dead, .dead, .dead, .dead, .dead, .dead, .dead, .dead, .dead, .dead, .dead, .dead, .dead, .dead, .dead, .dead, .dead, .dead, .dead, .data .bool, .dead, .dead, .dead, .dead, .dead, .dead, .dead, .dead, .dead, .dead, .dead, .dead, .dead, .dead, .dead, .dead, .dead, .dead, .dead, .dead, .dead, .dead, .dead, .dead, .dead, .dead, .dead, .dead, .dead, .dead, .dead, .dead, .dead, .dead, .dead, .dead, .dead, .dead, .dead, .dead, .dead, .dead, .dead, .dead, .dead, .dead, .dead, .dead, .dead, .dead, .dead, .dead, .dead, .dead, .dead, .dead, .dead, .dead, .dead, .dead, .dead, .dead, .dead, .dead, .dead, .dead, .dead, .dead, .dead, .dead, .dead, .dead, .dead, .dead, .dead, .dead, .dead, .dead, .dead, .dead, .dead, .dead, .dead, .dead, .dead, .dead])])]
def F_conv_Result (N : Nat) (args_0 : List Int) (a_1 : (List Int × Bool)) (k_2 : (List Int × Bool)) : Option ((List Int × Bool) × (Er × Unit)) :=
  cond (decide (@Ne Int (Nat.cast (List.length args_0) : Int) (3 : Int)))
    (
    some ((([] : List Int), false), ((Go.Eng.Er.s ErrShape), ())))
    (
    Option.bind (g_conv_Result_0 N N args_0 (a_1, ()) (k_2, ()) (([] : List Int), (false, ())) (a_1 :: (k_2 :: ([] : List ((List Int) × Bool)))) (Nat.cast (2 : Nat) : Int) (0 : Int)) fun y0 =>
    Sum.elim (fun y1 =>
      Option.bind (
          cond (decide (@Ne Int (Nat.cast (List.length ((((y1).2).1).1).1) : Int) (3 : Int)))
            (
            cond (decide ((List.length (((((y1).2).2).2).1).1) = (List.length (((((y1).2).2).2).1).1)))
              (
              some ((y1).1, (((y1).2).1, ((((y1).2).2).1, (((((y1).2).2).2).1, (true, ()))))))
              (
              none))
            (
            cond (decide (@Ne Int (Nat.cast (List.length (((((y1).2).2).1).1).1) : Int) (4 : Int)))
              (
              cond (decide ((List.length (((((y1).2).2).2).1).1) = (List.length (((((y1).2).2).2).1).1)))
                (
                some ((y1).1, (((y1).2).1, ((((y1).2).2).1, (((((y1).2).2).2).1, (true, ()))))))
                (
                none))
              (
              cond (decide (2 < (List.length ((((y1).2).1).1).1)))
                (
                cond (decide (2 < (List.length (((((y1).2).2).1).1).1)))
                  (
                  cond (decide (@Ne Int (List.getD ((((y1).2).1).1).1 2 (0 : Int)) (List.getD (((((y1).2).2).1).1).1 2 (0 : Int))))
                    (
                    cond (decide ((List.length (((((y1).2).2).2).1).1) = (List.length (((((y1).2).2).2).1).1)))
                      (
                      some ((y1).1, (((y1).2).1, ((((y1).2).2).1, (((((y1).2).2).2).1, (true, ()))))))
                      (
                      none))
                    (
                    cond ((((y1).2).1).1).2
                      (
                      cond (decide ((List.length (((((y1).2).2).2).1).1) = (List.length (((((y1).2).2).2).1).1)))
                        (
                        some ((y1).1, (((y1).2).1, ((((y1).2).2).1, (((((y1).2).2).2).1, (true, ()))))))
                        (
                        none))
                      (
                      cond (decide ((List.length (((((y1).2).2).2).1).1) = (List.length (((((y1).2).2).2).1).1)))
                        (
                        some ((y1).1, (((y1).2).1, ((((y1).2).2).1, (((((y1).2).2).2).1, ((((((y1).2).2).1).1).2, ()))))))
                        (
                        none))))
                  (
                  none))
                (
                none)))) fun y2 =>
      cond (((((y2).2).2).2).2).1
        (
        some ((([] : List Int), false), ((Go.Eng.Er.s ErrShape), ())))
        (
        cond (decide (0 < (List.length (y2).1)))
          (
          cond (decide (1 < (List.length (y2).1)))
            (
            cond (decide (2 < (List.length (y2).1)))
              (
              Option.bind (
                  cond (decide ((List.getD (y2).1 0 (0 : Int)) < (1 : Int)))
                    (
                    cond (decide ((List.length (((((y2).2).2).2).1).1) = (List.length (((((y2).2).2).2).1).1)))
                      (
                      some (((y2).2).1, ((((y2).2).2).1, (((((y2).2).2).2).1, ((List.getD (y2).1 0 (0 : Int)), ((List.getD (y2).1 1 (0 : Int)), (true, ())))))))
                      (
                      none))
                    (
                    cond (decide ((16 : Int) < (List.getD (y2).1 0 (0 : Int))))
                      (
                      cond (decide ((List.length (((((y2).2).2).2).1).1) = (List.length (((((y2).2).2).2).1).1)))
                        (
                        some (((y2).2).1, ((((y2).2).2).1, (((((y2).2).2).2).1, ((List.getD (y2).1 0 (0 : Int)), ((List.getD (y2).1 1 (0 : Int)), (true, ())))))))
                        (
                        none))
                      (
                      cond (decide ((List.getD (y2).1 1 (0 : Int)) < (0 : Int)))
                        (
                        cond (decide ((List.length (((((y2).2).2).2).1).1) = (List.length (((((y2).2).2).2).1).1)))
                          (
                          some (((y2).2).1, ((((y2).2).2).1, (((((y2).2).2).2).1, ((List.getD (y2).1 0 (0 : Int)), ((List.getD (y2).1 1 (0 : Int)), (true, ())))))))
                          (
                          none))
                        (
                        cond (decide ((15 : Int) < (List.getD (y2).1 1 (0 : Int))))
                          (
                          cond (decide ((List.length (((((y2).2).2).2).1).1) = (List.length (((((y2).2).2).2).1).1)))
                            (
                            some (((y2).2).1, ((((y2).2).2).1, (((((y2).2).2).2).1, ((List.getD (y2).1 0 (0 : Int)), ((List.getD (y2).1 1 (0 : Int)), (true, ())))))))
                            (
                            none))
                          (
                          Option.bind (F_tens_Narrow N (List.getD (y2).1 2 (0 : Int))) fun y3 =>
                          cond (decide ((List.length (((((y2).2).2).2).1).1) = (List.length (((((y2).2).2).2).1).1)))
                            (
                            some (((y2).2).1, ((((y2).2).2).1, (((((y2).2).2).2).1, ((List.getD (y2).1 0 (0 : Int)), ((List.getD (y2).1 1 (0 : Int)), ((decide (@Ne Int (y3).1 (List.getD (y2).1 2 (0 : Int)))), ())))))))
                            (
                            none)))))) fun y4 =>
              cond ((((((y4).2).2).2).2).2).1
                (
                some ((([] : List Int), false), ((Go.Eng.Er.s ErrRange), ())))
                (
                cond (decide (0 < (List.length (((y4).1).1).1)))
                  (
                  cond (decide (0 < (List.length ((((y4).2).1).1).1)))
                    (
                    cond (decide (1 < (List.length (((y4).1).1).1)))
                      (
                      cond (decide (1 < (List.length ((((y4).2).1).1).1)))
                        (
                        Option.bind (
                            cond (decide ((wi64 ((wi64 ((List.getD (((y4).1).1).1 0 (0 : Int)) + (wi64 ((2 : Int) * (((((y4).2).2).2).2).1)))) - (List.getD ((((y4).2).1).1).1 0 (0 : Int)))) < (0 : Int)))
                              (
                              cond (decide ((List.length ((((y4).2).2).1).1) = (List.length ((((y4).2).2).1).1)))
                                (
                                some (((y4).2).1, ((((y4).2).2).1, (((((y4).2).2).2).1, ((wi64 ((wi64 ((List.getD (((y4).1).1).1 0 (0 : Int)) + (wi64 ((2 : Int) * (((((y4).2).2).2).2).1)))) - (List.getD ((((y4).2).1).1).1 0 (0 : Int)))), ((wi64 ((wi64 ((List.getD (((y4).1).1).1 1 (0 : Int)) + (wi64 ((2 : Int) * (((((y4).2).2).2).2).1)))) - (List.getD ((((y4).2).1).1).1 1 (0 : Int)))), (true, ())))))))
                                (
                                none))
                              (
                              cond (decide ((List.length ((((y4).2).2).1).1) = (List.length ((((y4).2).2).1).1)))
                                (
                                some (((y4).2).1, ((((y4).2).2).1, (((((y4).2).2).2).1, ((wi64 ((wi64 ((List.getD (((y4).1).1).1 0 (0 : Int)) + (wi64 ((2 : Int) * (((((y4).2).2).2).2).1)))) - (List.getD ((((y4).2).1).1).1 0 (0 : Int)))), ((wi64 ((wi64 ((List.getD (((y4).1).1).1 1 (0 : Int)) + (wi64 ((2 : Int) * (((((y4).2).2).2).2).1)))) - (List.getD ((((y4).2).1).1).1 1 (0 : Int)))), ((decide ((wi64 ((wi64 ((List.getD (((y4).1).1).1 1 (0 : Int)) + (wi64 ((2 : Int) * (((((y4).2).2).2).2).1)))) - (List.getD ((((y4).2).1).1).1 1 (0 : Int)))) < (0 : Int))), ())))))))
                                (
                                none))) fun y5 =>
                        cond ((((((y5).2).2).2).2).2).1
                          (
                          some ((([] : List Int), false), ((Go.Eng.Er.s ErrShape), ())))
                          (
                          cond (decide (@Ne Int (((y5).2).2).1 (0 : Int)))
                            (
                            cond (decide (@Ne Int (((y5).2).2).1 (0 : Int)))
                              (
                              cond (decide (3 < (List.length (((y5).1).1).1)))
                                (
                                Option.bind (F_shape_Valid N (((wi64 ((wi64 (Int.tdiv ((((y5).2).2).2).1 (((y5).2).2).1)) + (1 : Int))) :: ((wi64 ((wi64 (Int.tdiv (((((y5).2).2).2).2).1 (((y5).2).2).1)) + (1 : Int))) :: ((List.getD (((y5).1).1).1 3 (0 : Int)) :: ([] : List Int)))), true)) fun y6 =>
                                cond (Bool.not (Go.Eng.Er.isNil (y6).1))
                                  (
                                  some ((([] : List Int), false), y6))
                                  (
                                  some ((((wi64 ((wi64 (Int.tdiv ((((y5).2).2).2).1 (((y5).2).2).1)) + (1 : Int))) :: ((wi64 ((wi64 (Int.tdiv (((((y5).2).2).2).2).1 (((y5).2).2).1)) + (1 : Int))) :: ((List.getD (((y5).1).1).1 3 (0 : Int)) :: ([] : List Int)))), true), (Go.Eng.Er.nil, ()))))
                                (
                                none))
                              (
                              none))
                            (
                            none)))
                        (
                        none))
                      (
                      none))
                    (
                    none))
                  (
                  none)))
              (
              none))
            (
            none))
          (
          none)))
      (fun y7 =>
      cond (decide (((0 : Nat) + (List.length ((y7).1).1)) ≤ (List.length ((y7).1).1)))
        (
        some (((List.take (List.length ((y7).1).1) ((y7).1).1), (((y7).1).2).1), (y7).2))
        (
        none)) y0)

abbrev c_conv_Result (N : Nat) : CallSpec := ⟨16, ps_conv_Result, rs_conv_Result, fun x => F_conv_Result N x.1 x.2.1 x.2.2.1⟩
abbrev l_conv_Result_0 (N : Nat) : LoopSpec := ⟨0, h_conv_Result_0, e_conv_Result_0, fun x => g_conv_Result_0 N N x.1 x.2.1 x.2.2.1 x.2.2.2.1 x.2.2.2.2.1 x.2.2.2.2.2.1 x.2.2.2.2.2.2.1⟩

theorem cs_conv_Result_ok (S : Nat → Addr) (N : Nat) : CallsOK Go.Proofs.Tryd.prog E S (cs_conv_Result N) :=
  .cons (F_shape_Valid_ok S N) (.cons (F_tens_Narrow_ok S N) (.nil))
noncomputable abbrev b_conv_Result_0 : Code := (loopsOf b_conv_Result).getD 0 .skip
theorem g_conv_Result_0_ok (S : Nat → Addr) (N : Nat) : ∀ n x y, (fun (x : Val (slotsTy h_conv_Result_0)) => g_conv_Result_0 N n x.1 x.2.1 x.2.2.1 x.2.2.2.1 x.2.2.2.2.1 x.2.2.2.2.2.1 x.2.2.2.2.2.2.1) x = some y → LoopCon Go.Proofs.Tryd.prog E S b_conv_Result_0 (encSlots h_conv_Result_0 x) (encEx e_conv_Result_0 y).1 (encEx e_conv_Result_0 y).2 :=
  loop_spec E_ok mixed (cs_conv_Result_ok S N) (all := loopsOf b_conv_Result) (ls := []) (.nil) (i := 0) (by kernel_rfl) (inner_of (by kernel_rfl)) (head := h_conv_Result_0) (ex := e_conv_Result_0) (fun n (x : Val (slotsTy h_conv_Result_0)) => g_conv_Result_0 N n x.1 x.2.1 x.2.2.1 x.2.2.2.1 x.2.2.2.2.1 x.2.2.2.2.2.1 x.2.2.2.2.2.2.1) (fun _ => rfl) (fun n x => by kernel_rfl)
theorem F_conv_Result_ok (S : Nat → Addr) (N : Nat) : ∀ x y, (c_conv_Result N).g x = some y → FCon Go.Proofs.Tryd.prog E S 16 ps_conv_Result rs_conv_Result x y := by
  intro x y h
  exact fun_specJ E_ok mixed (cs_conv_Result_ok S N) (f := 16) (fi := ⟨b_conv_Result, 153, Go.Proofs.Tryd.f16.results.toList⟩) (by kernel_rfl) (ls := [l_conv_Result_0 N]) (.cons (by kernel_rfl) (g_conv_Result_0_ok S N N) (.nil)) (js := j_conv_Result) (by kernel_rfl) (ps := ps_conv_Result) (rs := rs_conv_Result) (Eq.trans (b := F_conv_Result N x.1 x.2.1 x.2.2.1) (by kernel_rfl) h)

/-! lodge/conv.result -/

abbrev ps_conv_result : List Ty := [(.st (.pair (.st (.pair (.sl (.int .i64)) .bool)) (.sl (.int .i64)))), (.st (.pair (.st (.pair (.sl (.int .i64)) .bool)) (.sl (.int .i64)))), (.sl (.int .i64))]
abbrev rs_conv_result : List Slot := [.data (.st (.pair (.sl (.int .i64)) .bool)), .data .err]
abbrev cs_conv_result (N : Nat) : List CallSpec := [c_tens_Valid N, c_conv_Result N]
noncomputable abbrev b_conv_result : Code := (Go.Proofs.Tryd.f32.body).getD .skip

abbrev h_conv_result_0 : List Slot := [.dead, .dead, .data (.sl (.int .i64)), .box [.d (.st (.pair (.st (.pair (.sl (.int .i64)) .bool)) (.sl (.int .i64))))], .box [.d (.st (.pair (.st (.pair (.sl (.int .i64)) .bool)) (.sl (.int .i64))))], .dead, .box [.sl (.int .i64), .d .bool], .dead, .dead, .dead, .dead, .dead, .dead, .sl (.st (.pair (.st (.pair (.sl (.int .i64)) .bool)) (.sl (.int .i64)))), .data (.int .i64), .data (.int .i64), .dead, .dead, .dead, .dead, .dead, .dead, .dead, .dead, .dead, .dead, .dead, .dead, .dead, .dead, .dead, .dead, .dead, .dead]
abbrev e_conv_result_0 : List (AX × List Slot) := [(AX.exit 0, [.dead, .dead, .data (.sl (.int .i64)), .box [.d (.st (.pair (.st (.pair (.sl (.int .i64)) .bool)) (.sl (.int .i64))))], .box [.d (.st (.pair (.st (.pair (.sl (.int .i64)) .bool)) (.sl (.int .i64))))], .dead, .box [.sl (.int .i64), .d .bool], .dead, .dead, .dead, .dead, .dead, .dead, .dead, .dead, .dead, .dead, .dead, .dead, .dead, .dead, .dead, .dead, .dead, .dead, .dead, .dead, .dead, .dead, .dead, .dead, .dead, .dead, .dead]), (AX.ret, [.dead, .dead, .dead, .dead, .dead, .dead, .box [.sl (.int .i64), .d .bool], .data .err, .dead, .dead, .dead, .dead, .dead, .dead, .dead, .dead, .dead, .dead, .dead, .dead, .dead, .dead, .dead, .dead, .dead, .dead, .dead, .dead, .dead, .dead, .dead, .dead, .dead, .dead])]
def g_conv_result_0 (N : Nat) : Nat → List Int → (((List Int × Bool) × List Int) × Unit) → (((List Int × Bool) × List Int) × Unit) → (List Int × (Bool × Unit)) → List (((List Int × Bool) × List Int)) → Int → Int → Option (Sum (List Int × ((((List Int × Bool) × List Int) × Unit) × ((((List Int × Bool) × List Int) × Unit) × ((List Int × (Bool × Unit)) × Unit)))) ((List Int × (Bool × Unit)) × (Er × Unit)))
  | 0, _, _, _, _, _, _, _ => none
  | n + 1, args_2, a_3, k_4, t_6, t_13, t_14, t_15 =>
    cond (decide (t_15 < t_14))
      (
      cond (decide ((0 : Int) ≤ t_15))
        (
        cond (decide ((Int.toNat t_15) < (List.length t_13)))
          (
          cond (decide (((0 : Nat) + (Int.toNat t_15)) < (List.length t_13)))
            (
            Option.bind (F_tens_Valid N (List.getD t_13 ((0 : Nat) + (Int.toNat t_15)) ((([] : List Int), false), ([] : List Int)))) fun y1 =>
            cond (Bool.not (Go.Eng.Er.isNil (y1).1))
              (
              some (Sum.inr ((([] : List Int), (false, ())), y1)))
              (
              cond (decide ((List.length (t_6).1) = (List.length (t_6).1)))
                (
                cond (decide ((List.length t_13) = (List.length t_13)))
                  (
                  (g_conv_result_0 N n args_2 a_3 k_4 t_6 t_13 t_14 (wi64 (t_15 + (1 : Int)))))
                  (
                  none))
                (
                none)))
            (
            none))
          (
          none))
        (
        none))
      (
      cond (decide ((List.length (t_6).1) = (List.length (t_6).1)))
        (
        some (Sum.inl (args_2, (a_3, (k_4, (t_6, ()))))))
        (
        none))

def F_conv_result (N : Nat) (a_0 : ((List Int × Bool) × List Int)) (k_1 : ((List Int × Bool) × List Int)) (args_2 : List Int) : Option ((List Int × Bool) × (Er × Unit)) :=
  Option.bind (g_conv_result_0 N N args_2 (a_0, ()) (k_1, ()) (([] : List Int), (false, ())) (a_0 :: (k_1 :: ([] : List (((List Int) × Bool) × (List Int))))) (Nat.cast (2 : Nat) : Int) (0 : Int)) fun y0 =>
  Sum.elim (fun y1 =>
    Option.bind (F_conv_Result N (y1).1 ((((y1).2).1).1).1 (((((y1).2).2).1).1).1) fun y2 =>
    some y2)
    (fun y3 =>
    cond (decide (((0 : Nat) + (List.length ((y3).1).1)) ≤ (List.length ((y3).1).1)))
      (
      some (((List.take (List.length ((y3).1).1) ((y3).1).1), (((y3).1).2).1), (y3).2))
      (
      none)) y0

abbrev c_conv_result (N : Nat) : CallSpec := ⟨32, ps_conv_result, rs_conv_result, fun x => F_conv_result N x.1 x.2.1 x.2.2.1⟩
abbrev l_conv_result_0 (N : Nat) : LoopSpec := ⟨0, h_conv_result_0, e_conv_result_0, fun x => g_conv_result_0 N N x.1 x.2.1 x.2.2.1 x.2.2.2.1 x.2.2.2.2.1 x.2.2.2.2.2.1 x.2.2.2.2.2.2.1⟩

theorem cs_conv_result_ok (S : Nat → Addr) (N : Nat) : CallsOK Go.Proofs.Tryd.prog E S (cs_conv_result N) :=
  .cons (F_tens_Valid_ok S N) (.cons (F_conv_Result_ok S N) (.nil))
noncomputable abbrev b_conv_result_0 : Code := (loopsOf b_conv_result).getD 0 .skip
theorem g_conv_result_0_ok (S : Nat → Addr) (N : Nat) : ∀ n x y, (fun (x : Val (slotsTy h_conv_result_0)) => g_conv_result_0 N n x.1 x.2.1 x.2.2.1 x.2.2.2.1 x.2.2.2.2.1 x.2.2.2.2.2.1 x.2.2.2.2.2.2.1) x = some y → LoopCon Go.Proofs.Tryd.prog E S b_conv_result_0 (encSlots h_conv_result_0 x) (encEx e_conv_result_0 y).1 (encEx e_conv_result_0 y).2 :=
  loop_spec E_ok mixed (cs_conv_result_ok S N) (all := loopsOf b_conv_result) (ls := []) (.nil) (i := 0) (by kernel_rfl) (inner_of (by kernel_rfl)) (head := h_conv_result_0) (ex := e_conv_result_0) (fun n (x : Val (slotsTy h_conv_result_0)) => g_conv_result_0 N n x.1 x.2.1 x.2.2.1 x.2.2.2.1 x.2.2.2.2.1 x.2.2.2.2.2.1 x.2.2.2.2.2.2.1) (fun _ => rfl) (fun n x => by kernel_rfl)
theorem F_conv_result_ok (S : Nat → Addr) (N : Nat) : ∀ x y, (c_conv_result N).g x = some y → FCon Go.Proofs.Tryd.prog E S 32 ps_conv_result rs_conv_result x y := by
  intro x y h
  exact fun_spec E_ok mixed (cs_conv_result_ok S N) (f := 32) (fi := ⟨b_conv_result, 34, Go.Proofs.Tryd.f32.results.toList⟩) (by kernel_rfl) (ls := [l_conv_result_0 N]) (.cons (by kernel_rfl) (g_conv_result_0_ok S N N) (.nil)) (by kernel_rfl) (ps := ps_conv_result) (rs := rs_conv_result) (Eq.trans (b := F_conv_result N x.1 x.2.1 x.2.2.1) (by kernel_rfl) h)

/-! lodge/conv.of$1 -/

abbrev ps_conv_of_1 : List Ty := [(.int .i64), (.ref (.st (.pair (.st (.pair (.sl (.int .i64)) .bool)) (.sl (.int .i64)))))]
abbrev rs_conv_of_1 : List Slot := [.data (.int .i64)]
abbrev cs_conv_of_1 (N : Nat) : List CallSpec := []
noncomputable abbrev b_conv_of_1 : Code := (Go.Proofs.Tryd.f61.body).getD .skip

def F_conv_of_1 (N : Nat) (i_0 : Int) (t_1 : ((List Int × Bool) × List Int)) : Option (Int × Unit) :=
  cond (decide ((0 : Int) ≤ i_0))
    (
    cond (decide ((Int.toNat i_0) < (List.length (t_1).2)))
      (
      some ((List.getD (t_1).2 (Int.toNat i_0) (0 : Int)), ()))
      (
      none))
    (
    none)

abbrev c_conv_of_1 (N : Nat) : CallSpec := ⟨61, ps_conv_of_1, rs_conv_of_1, fun x => F_conv_of_1 N x.1 x.2.1⟩

theorem cs_conv_of_1_ok (S : Nat → Addr) (N : Nat) : CallsOK Go.Proofs.Tryd.prog E S (cs_conv_of_1 N) :=
  .nil
theorem F_conv_of_1_ok (S : Nat → Addr) (N : Nat) : ∀ x y, (c_conv_of_1 N).g x = some y → FCon Go.Proofs.Tryd.prog E S 61 ps_conv_of_1 rs_conv_of_1 x y := by
  intro x y h
  exact fun_spec E_ok mixed (cs_conv_of_1_ok S N) (f := 61) (fi := ⟨b_conv_of_1, 9, Go.Proofs.Tryd.f61.results.toList⟩) (by kernel_rfl) (ls := []) (.nil) (by kernel_rfl) (ps := ps_conv_of_1) (rs := rs_conv_of_1) (Eq.trans (b := F_conv_of_1 N x.1 x.2.1) (by kernel_rfl) h)

/-! lodge/conv.of -/

abbrev ps_conv_of : List Ty := [(.st (.pair (.st (.pair (.sl (.int .i64)) .bool)) (.sl (.int .i64))))]
abbrev rs_conv_of : List Slot := [.data (.clo 61 (.ref (.st (.pair (.st (.pair (.sl (.int .i64)) .bool)) (.sl (.int .i64))))))]
abbrev cs_conv_of (N : Nat) : List CallSpec := [c_conv_of_1 N]
noncomputable abbrev b_conv_of : Code := (Go.Proofs.Tryd.f35.body).getD .skip

def F_conv_of (N : Nat) (t_0 : ((List Int × Bool) × List Int)) : Option (((List Int × Bool) × List Int) × Unit) :=
  some (t_0, ())

abbrev c_conv_of (N : Nat) : CallSpec := ⟨35, ps_conv_of, rs_conv_of, fun x => F_conv_of N x.1⟩

theorem cs_conv_of_ok (S : Nat → Addr) (N : Nat) : CallsOK Go.Proofs.Tryd.prog E S (cs_conv_of N) :=
  .cons (F_conv_of_1_ok S N) (.nil)
theorem F_conv_of_ok (S : Nat → Addr) (N : Nat) : ∀ x y, (c_conv_of N).g x = some y → FCon Go.Proofs.Tryd.prog E S 35 ps_conv_of rs_conv_of x y := by
  intro x y h
  exact fun_spec E_ok mixed (cs_conv_of_ok S N) (f := 35) (fi := ⟨b_conv_of, 4, Go.Proofs.Tryd.f35.results.toList⟩) (by kernel_rfl) (ls := []) (.nil) (by kernel_rfl) (ps := ps_conv_of) (rs := rs_conv_of) (Eq.trans (b := F_conv_of N x.1) (by kernel_rfl) h)

/-! lodge/conv.Inside -/

abbrev ps_conv_Inside : List Ty := [(.int .i64), (.int .i64), (.int .i64), (.int .i64), (.int .i64)]
abbrev rs_conv_Inside : List Slot := [.data (.int .i64), .data (.int .i64)]
abbrev cs_conv_Inside (N : Nat) : List CallSpec := []
noncomputable abbrev b_conv_Inside : Code := (Go.Proofs.Tryd.f10.body).getD .skip

def F_conv_Inside (N : Nat) (n_0 : Int) (k_1 : Int) (stride_2 : Int) (pad_3 : Int) (o_4 : Int) : Option (Int × (Int × Unit)) :=
  cond (decide (n_0 < (0 : Int)))
    (
    some ((0 : Int), ((0 : Int), ())))
    (
    cond (decide (pad_3 < (0 : Int)))
      (
      some ((0 : Int), ((0 : Int), ())))
      (
      cond (decide (o_4 < (0 : Int)))
        (
        some ((0 : Int), ((0 : Int), ())))
        (
        cond (decide (k_1 < (1 : Int)))
          (
          some ((0 : Int), ((0 : Int), ())))
          (
          cond (decide (n_0 < (1 : Int)))
            (
            some ((0 : Int), ((0 : Int), ())))
            (
            cond (decide (stride_2 < (1 : Int)))
              (
              some ((0 : Int), ((0 : Int), ())))
              (
              cond (decide ((1048576 : Int) < (Go.Eng.imax (Go.Eng.imax (Go.Eng.imax (Go.Eng.imax n_0 k_1) stride_2) pad_3) o_4)))
                (
                some ((0 : Int), ((0 : Int), ())))
                (
                cond (decide ((Go.Eng.imin k_1 (wi64 (n_0 - (wi64 ((wi64 (o_4 * stride_2)) - pad_3))))) ≤ (Go.Eng.imax (0 : Int) (wi64 ((0 : Int) - (wi64 ((wi64 (o_4 * stride_2)) - pad_3)))))))
                  (
                  some ((0 : Int), ((0 : Int), ())))
                  (
                  some ((Go.Eng.imax (0 : Int) (wi64 ((0 : Int) - (wi64 ((wi64 (o_4 * stride_2)) - pad_3))))), ((Go.Eng.imin k_1 (wi64 (n_0 - (wi64 ((wi64 (o_4 * stride_2)) - pad_3))))), ()))))))))))

abbrev c_conv_Inside (N : Nat) : CallSpec := ⟨10, ps_conv_Inside, rs_conv_Inside, fun x => F_conv_Inside N x.1 x.2.1 x.2.2.1 x.2.2.2.1 x.2.2.2.2.1⟩

theorem cs_conv_Inside_ok (S : Nat → Addr) (N : Nat) : CallsOK Go.Proofs.Tryd.prog E S (cs_conv_Inside N) :=
  .nil
theorem F_conv_Inside_ok (S : Nat → Addr) (N : Nat) : ∀ x y, (c_conv_Inside N).g x = some y → FCon Go.Proofs.Tryd.prog E S 10 ps_conv_Inside rs_conv_Inside x y := by
  intro x y h
  exact fun_spec E_ok mixed (cs_conv_Inside_ok S N) (f := 10) (fi := ⟨b_conv_Inside, 64, Go.Proofs.Tryd.f10.results.toList⟩) (by kernel_rfl) (ls := []) (.nil) (by kernel_rfl) (ps := ps_conv_Inside) (rs := rs_conv_Inside) (Eq.trans (b := F_conv_Inside N x.1 x.2.1 x.2.2.1 x.2.2.2.1 x.2.2.2.2.1) (by kernel_rfl) h)

/-! lodge/tens.Wide -/

abbrev ps_tens_Wide : List Ty := [(.int .i64)]
abbrev rs_tens_Wide : List Slot := [.data (.int .i64)]
abbrev cs_tens_Wide (N : Nat) : List CallSpec := []
noncomputable abbrev b_tens_Wide : Code := (Go.Proofs.Tryd.f58.body).getD .skip

def F_tens_Wide (N : Nat) (n_0 : Int) : Option (Int × Unit) :=
  some ((wi64 (wi32 (wu32 (wu64 n_0)))), ())

abbrev c_tens_Wide (N : Nat) : CallSpec := ⟨58, ps_tens_Wide, rs_tens_Wide, fun x => F_tens_Wide N x.1⟩

theorem cs_tens_Wide_ok (S : Nat → Addr) (N : Nat) : CallsOK Go.Proofs.Tryd.prog E S (cs_tens_Wide N) :=
  .nil
theorem F_tens_Wide_ok (S : Nat → Addr) (N : Nat) : ∀ x y, (c_tens_Wide N).g x = some y → FCon Go.Proofs.Tryd.prog E S 58 ps_tens_Wide rs_tens_Wide x y := by
  intro x y h
  exact fun_spec E_ok mixed (cs_tens_Wide_ok S N) (f := 58) (fi := ⟨b_tens_Wide, 8, Go.Proofs.Tryd.f58.results.toList⟩) (by kernel_rfl) (ls := []) (.nil) (by kernel_rfl) (ps := ps_tens_Wide) (rs := rs_tens_Wide) (Eq.trans (b := F_tens_Wide N x.1) (by kernel_rfl) h)

/-! lodge/conv.At -/

abbrev ps_conv_At : List Ty := [(.sl (.int .i64)), (.sl (.int .i64)), (.sl (.int .i64)), (.clo 61 (.ref (.st (.pair (.st (.pair (.sl (.int .i64)) .bool)) (.sl (.int .i64)))))), (.clo 61 (.ref (.st (.pair (.st (.pair (.sl (.int .i64)) .bool)) (.sl (.int .i64)))))), (.int .i64), (.int .i64)]
abbrev rs_conv_At : List Slot := [.data (.int .i64)]
abbrev cs_conv_At (N : Nat) : List CallSpec := [c_conv_of_1 N, c_conv_Inside N, c_tens_Wide N]
noncomputable abbrev b_conv_At : Code := (Go.Proofs.Tryd.f34.body).getD .skip

abbrev h_conv_At_2 : List Slot := [.dead, .data (.sl (.int .i64)), .data (.sl (.int .i64)), .data (.clo 61 (.ref (.st (.pair (.st (.pair (.sl (.int .i64)) .bool)) (.sl (.int .i64)))))), .data (.clo 61 (.ref (.st (.pair (.st (.pair (.sl (.int .i64)) .bool)) (.sl (.int .i64)))))), .dead, .dead, .dead, .dead, .dead, .dead, .dead, .dead, .dead, .dead, .dead, .dead, .data (.int .i64), .data (.int .i64), .data (.int .i64), .data (.int .i64), .dead, .dead, .data (.int .i64), .data (.int .i64), .dead, .data (.int .i64), .data (.int .i64), .data (.int .i64), .data (.int .i64), .data (.int .i64), .data (.int .i64), .dead, .dead, .dead, .dead, .dead, .dead, .dead, .dead, .dead, .dead, .dead, .dead, .dead, .dead, .dead, .dead, .dead, .dead, .dead, .dead, .dead, .dead, .dead, .dead, .dead, .dead, .dead, .dead, .dead, .dead, .dead, .dead, .dead, .dead, .dead, .dead, .dead, .dead, .dead, .dead, .dead, .dead, .dead, .dead, .dead, .dead, .dead, .dead, .dead, .dead, .dead, .dead, .dead, .dead, .dead, .dead, .dead, .dead, .dead, .dead, .dead, .dead, .dead, .dead, .dead, .dead, .dead, .dead, .dead, .dead, .dead, .dead, .dead, .dead, .dead, .dead, .dead, .data (.int .i64), .data (.int .i64), .dead, .dead, .dead, .dead, .dead, .dead, .dead, .dead, .dead, .dead, .dead, .dead, .dead, .dead, .dead, .dead, .dead, .dead, .dead, .dead, .dead, .dead, .dead, .dead, .dead, .dead, .dead, .dead, .dead, .dead, .dead, .dead, .dead, .dead, .dead, .dead, .dead, .dead, .dead, .dead, .dead, .dead, .dead, .dead]
abbrev e_conv_At_2 : List (AX × List Slot) := [(AX.exit 4, [.dead, .data (.sl (.int .i64)), .data (.sl (.int .i64)), .data (.clo 61 (.ref (.st (.pair (.st (.pair (.sl (.int .i64)) .bool)) (.sl (.int .i64)))))), .data (.clo 61 (.ref (.st (.pair (.st (.pair (.sl (.int .i64)) .bool)) (.sl (.int .i64)))))), .dead, .dead, .dead, .dead, .dead, .dead, .dead, .dead, .dead, .dead, .dead, .dead, .data (.int .i64), .data (.int .i64), .data (.int .i64), .data (.int .i64), .dead, .dead, .data (.int .i64), .data (.int .i64), .dead, .data (.int .i64), .data (.int .i64), .data (.int .i64), .data (.int .i64), .data (.int .i64), .data (.int .i64), .dead, .dead, .dead, .dead, .dead, .dead, .dead, .dead, .dead, .dead, .dead, .dead, .dead, .dead, .dead, .dead, .dead, .dead, .dead, .dead, .dead, .dead, .dead, .dead, .dead, .dead, .dead, .dead, .dead, .dead, .dead, .dead, .dead, .dead, .dead, .dead, .dead, .dead, .dead, .dead, .dead, .dead, .dead, .dead, .dead, .dead, .dead, .dead, .dead, .dead, .dead, .dead, .dead, .dead, .dead, .dead, .dead, .dead, .dead, .dead, .dead, .dead, .dead, .dead, .dead, .dead, .dead, .dead, .dead, .dead, .dead, .dead, .dead, .dead, .dead, .dead, .dead, .dead, .dead, .dead, .dead, .dead, .dead, .dead, .dead, .dead, .dead, .dead, .dead, .dead, .dead, .dead, .dead, .dead, .dead, .dead, .dead, .dead, .dead, .dead, .dead, .dead, .dead, .dead, .dead, .dead, .dead, .dead, .dead, .dead, .dead, .dead, .dead, .dead, .dead, .dead, .dead, .dead, .dead, .dead, .dead, .dead, .dead])]
def g_conv_At_2 (N : Nat) : Nat → List Int → List Int → ((List Int × Bool) × List Int) → ((List Int × Bool) × List Int) → Int → Int → Int → Int → Int → Int → Int → Int → Int → Int → Int → Int → Int → Int → Option (List Int × (List Int × (((List Int × Bool) × List Int) × (((List Int × Bool) × List Int) × (Int × (Int × (Int × (Int × (Int × (Int × (Int × (Int × (Int × (Int × (Int × (Int × Unit))))))))))))))))
  | 0, _, _, _, _, _, _, _, _, _, _, _, _, _, _, _, _, _, _ => none
  | n + 1, a_1, k_2, ga_3, gk_4, za_17, c_18, n_19, o_20, top_23, left_24, dyTo_26, dxFrom_27, dxTo_28, s_29, dy_30, dx_31, t_109, t_110 =>
    cond (decide (t_110 < t_109))
      (
      cond (decide (1 < (List.length a_1)))
        (
        Option.bind (F_conv_of_1 N (wi64 ((wi64 ((wi64 ((wi64 ((wi64 ((wi64 (top_23 + dy_30)) * (List.getD a_1 1 (0 : Int)))) + left_24)) + dx_31)) * c_18)) + t_110)) ga_3) fun y4 =>
        cond (decide (1 < (List.length k_2)))
          (
          Option.bind (F_conv_of_1 N (wi64 ((wi64 ((wi64 ((wi64 ((wi64 ((wi64 (dy_30 * (List.getD k_2 1 (0 : Int)))) + dx_31)) * c_18)) + t_110)) * n_19)) + o_20)) gk_4) fun y5 =>
          (g_conv_At_2 N n a_1 k_2 ga_3 gk_4 za_17 c_18 n_19 o_20 top_23 left_24 dyTo_26 dxFrom_27 dxTo_28 (wi64 (s_29 + (wi64 ((wi64 ((y4).1 - za_17)) * (y5).1)))) dy_30 dx_31 t_109 (wi64 (t_110 + (1 : Int)))))
          (
          none))
        (
        none))
      (
      some (a_1, (k_2, (ga_3, (gk_4, (za_17, (c_18, (n_19, (o_20, (top_23, (left_24, (dyTo_26, (dxFrom_27, (dxTo_28, (s_29, (dy_30, (dx_31, ())))))))))))))))))

abbrev h_conv_At_1 : List Slot := [.dead, .data (.sl (.int .i64)), .data (.sl (.int .i64)), .data (.clo 61 (.ref (.st (.pair (.st (.pair (.sl (.int .i64)) .bool)) (.sl (.int .i64)))))), .data (.clo 61 (.ref (.st (.pair (.st (.pair (.sl (.int .i64)) .bool)) (.sl (.int .i64)))))), .dead, .dead, .dead, .dead, .dead, .dead, .dead, .dead, .dead, .dead, .dead, .dead, .data (.int .i64), .data (.int .i64), .data (.int .i64), .data (.int .i64), .dead, .dead, .data (.int .i64), .data (.int .i64), .dead, .data (.int .i64), .data (.int .i64), .data (.int .i64), .data (.int .i64), .data (.int .i64), .data (.int .i64), .dead, .dead, .dead, .dead, .dead, .dead, .dead, .dead, .dead, .dead, .dead, .dead, .dead, .dead, .dead, .dead, .dead, .dead, .dead, .dead, .dead, .dead, .dead, .dead, .dead, .dead, .dead, .dead, .dead, .dead, .dead, .dead, .dead, .dead, .dead, .dead, .dead, .dead, .dead, .dead, .dead, .dead, .dead, .dead, .dead, .dead, .dead, .dead, .dead, .dead, .dead, .dead, .dead, .dead, .dead, .dead, .dead, .dead, .dead, .dead, .dead, .dead, .dead, .dead, .dead, .dead, .dead, .dead, .dead, .dead, .dead, .dead, .dead, .dead, .dead, .dead, .dead, .dead, .dead, .dead, .dead, .dead, .dead, .dead, .dead, .dead, .dead, .dead, .dead, .dead, .dead, .dead, .dead, .dead, .dead, .dead, .dead, .dead, .dead, .dead, .dead, .dead, .dead, .dead, .dead, .dead, .dead, .dead, .dead, .dead, .dead, .dead, .dead, .dead, .dead, .dead, .dead, .dead, .dead, .dead, .dead, .dead, .dead]
abbrev e_conv_At_1 : List (AX × List Slot) := [(AX.exit 1, [.dead, .data (.sl (.int .i64)), .data (.sl (.int .i64)), .data (.clo 61 (.ref (.st (.pair (.st (.pair (.sl (.int .i64)) .bool)) (.sl (.int .i64)))))), .data (.clo 61 (.ref (.st (.pair (.st (.pair (.sl (.int .i64)) .bool)) (.sl (.int .i64)))))), .dead, .dead, .dead, .dead, .dead, .dead, .dead, .dead, .dead, .dead, .dead, .dead, .data (.int .i64), .data (.int .i64), .data (.int .i64), .data (.int .i64), .dead, .dead, .data (.int .i64), .data (.int .i64), .dead, .data (.int .i64), .data (.int .i64), .data (.int .i64), .data (.int .i64), .data (.int .i64), .dead, .dead, .dead, .dead, .dead, .dead, .dead, .dead, .dead, .dead, .dead, .dead, .dead, .dead, .dead, .dead, .dead, .dead, .dead, .dead, .dead, .dead, .dead, .dead, .dead, .dead, .dead, .dead, .dead, .dead, .dead, .dead, .dead, .dead, .dead, .dead, .dead, .dead, .dead, .dead, .dead, .dead, .dead, .dead, .dead, .dead, .dead, .dead, .dead, .dead, .dead, .dead, .dead, .dead, .dead, .dead, .dead, .dead, .dead, .dead, .dead, .dead, .dead, .dead, .dead, .dead, .dead, .dead, .dead, .dead, .dead, .dead, .dead, .dead, .dead, .dead, .dead, .dead, .dead, .dead, .dead, .dead, .dead, .dead, .dead, .dead, .dead, .dead, .dead, .dead, .dead, .dead, .dead, .dead, .dead, .dead, .dead, .dead, .dead, .dead, .dead, .dead, .dead, .dead, .dead, .dead, .dead, .dead, .dead, .dead, .dead, .dead, .dead, .dead, .dead, .dead, .dead, .dead, .dead, .dead, .dead, .dead, .dead, .dead])]
def g_conv_At_1 (N : Nat) : Nat → List Int → List Int → ((List Int × Bool) × List Int) → ((List Int × Bool) × List Int) → Int → Int → Int → Int → Int → Int → Int → Int → Int → Int → Int → Int → Option (List Int × (List Int × (((List Int × Bool) × List Int) × (((List Int × Bool) × List Int) × (Int × (Int × (Int × (Int × (Int × (Int × (Int × (Int × (Int × (Int × (Int × Unit)))))))))))))))
  | 0, _, _, _, _, _, _, _, _, _, _, _, _, _, _, _, _ => none
  | n + 1, a_1, k_2, ga_3, gk_4, za_17, c_18, n_19, o_20, top_23, left_24, dyTo_26, dxFrom_27, dxTo_28, s_29, dy_30, dx_31 =>
    cond (decide (dxTo_28 ≤ dx_31))
      (
      some (a_1, (k_2, (ga_3, (gk_4, (za_17, (c_18, (n_19, (o_20, (top_23, (left_24, (dyTo_26, (dxFrom_27, (dxTo_28, (s_29, ((wi64 (dy_30 + (1 : Int))), ()))))))))))))))))
      (
      Option.bind (g_conv_At_2 N N a_1 k_2 ga_3 gk_4 za_17 c_18 n_19 o_20 top_23 left_24 dyTo_26 dxFrom_27 dxTo_28 s_29 dy_30 dx_31 c_18 (0 : Int)) fun y7 =>
      (g_conv_At_1 N n (y7).1 ((y7).2).1 (((y7).2).2).1 ((((y7).2).2).2).1 (((((y7).2).2).2).2).1 ((((((y7).2).2).2).2).2).1 (((((((y7).2).2).2).2).2).2).1 ((((((((y7).2).2).2).2).2).2).2).1 (((((((((y7).2).2).2).2).2).2).2).2).1 ((((((((((y7).2).2).2).2).2).2).2).2).2).1 (((((((((((y7).2).2).2).2).2).2).2).2).2).2).1 ((((((((((((y7).2).2).2).2).2).2).2).2).2).2).2).1 (((((((((((((y7).2).2).2).2).2).2).2).2).2).2).2).2).1 ((((((((((((((y7).2).2).2).2).2).2).2).2).2).2).2).2).2).1 (((((((((((((((y7).2).2).2).2).2).2).2).2).2).2).2).2).2).2).1 (wi64 (((((((((((((((((y7).2).2).2).2).2).2).2).2).2).2).2).2).2).2).2).1 + (1 : Int)))))

abbrev h_conv_At_0 : List Slot := [.dead, .data (.sl (.int .i64)), .data (.sl (.int .i64)), .data (.clo 61 (.ref (.st (.pair (.st (.pair (.sl (.int .i64)) .bool)) (.sl (.int .i64)))))), .data (.clo 61 (.ref (.st (.pair (.st (.pair (.sl (.int .i64)) .bool)) (.sl (.int .i64)))))), .dead, .dead, .dead, .dead, .dead, .dead, .dead, .dead, .dead, .dead, .dead, .dead, .data (.int .i64), .data (.int .i64), .data (.int .i64), .data (.int .i64), .dead, .dead, .data (.int .i64), .data (.int .i64), .dead, .data (.int .i64), .data (.int .i64), .data (.int .i64), .data (.int .i64), .data (.int .i64), .dead, .dead, .dead, .dead, .dead, .dead, .dead, .dead, .dead, .dead, .dead, .dead, .dead, .dead, .dead, .dead, .dead, .dead, .dead, .dead, .dead, .dead, .dead, .dead, .dead, .dead, .dead, .dead, .dead, .dead, .dead, .dead, .dead, .dead, .dead, .dead, .dead, .dead, .dead, .dead, .dead, .dead, .dead, .dead, .dead, .dead, .dead, .dead, .dead, .dead, .dead, .dead, .dead, .dead, .dead, .dead, .dead, .dead, .dead, .dead, .dead, .dead, .dead, .dead, .dead, .dead, .dead, .dead, .dead, .dead, .dead, .dead, .dead, .dead, .dead, .dead, .dead, .dead, .dead, .dead, .dead, .dead, .dead, .dead, .dead, .dead, .dead, .dead, .dead, .dead, .dead, .dead, .dead, .dead, .dead, .dead, .dead, .dead, .dead, .dead, .dead, .dead, .dead, .dead, .dead, .dead, .dead, .dead, .dead, .dead, .dead, .dead, .dead, .dead, .dead, .dead, .dead, .dead, .dead, .dead, .dead, .dead, .dead, .dead]
abbrev e_conv_At_0 : List (AX × List Slot) := [(AX.exit 0, [.dead, .dead, .dead, .dead, .dead, .dead, .dead, .dead, .dead, .dead, .dead, .dead, .dead, .dead, .dead, .dead, .dead, .dead, .dead, .dead, .dead, .dead, .dead, .dead, .dead, .dead, .dead, .dead, .dead, .data (.int .i64), .dead, .dead, .dead, .dead, .dead, .dead, .dead, .dead, .dead, .dead, .dead, .dead, .dead, .dead, .dead, .dead, .dead, .dead, .dead, .dead, .dead, .dead, .dead, .dead, .dead, .dead, .dead, .dead, .dead, .dead, .dead, .dead, .dead, .dead, .dead, .dead, .dead, .dead, .dead, .dead, .dead, .dead, .dead, .dead, .dead, .dead, .dead, .dead, .dead, .dead, .dead, .dead, .dead, .dead, .dead, .dead, .dead, .dead, .dead, .dead, .dead, .dead, .dead, .dead, .dead, .dead, .dead, .dead, .dead, .dead, .dead, .dead, .dead, .dead, .dead, .dead, .dead, .dead, .dead, .dead, .dead, .dead, .dead, .dead, .dead, .dead, .dead, .dead, .dead, .dead, .dead, .dead, .dead, .dead, .dead, .dead, .dead, .dead, .dead, .dead, .dead, .dead, .dead, .dead, .dead, .dead, .dead, .dead, .dead, .dead, .dead, .dead, .dead, .dead, .dead, .dead, .dead, .dead, .dead, .dead, .dead, .dead, .dead, .dead, .dead])]
def g_conv_At_0 (N : Nat) : Nat → List Int → List Int → ((List Int × Bool) × List Int) → ((List Int × Bool) × List Int) → Int → Int → Int → Int → Int → Int → Int → Int → Int → Int → Int → Option (Int × Unit)
  | 0, _, _, _, _, _, _, _, _, _, _, _, _, _, _, _ => none
  | n + 1, a_1, k_2, ga_3, gk_4, za_17, c_18, n_19, o_20, top_23, left_24, dyTo_26, dxFrom_27, dxTo_28, s_29, dy_30 =>
    cond (decide (dy_30 < dyTo_26))
      (
      Option.bind (g_conv_At_1 N N a_1 k_2 ga_3 gk_4 za_17 c_18 n_19 o_20 top_23 left_24 dyTo_26 dxFrom_27 dxTo_28 s_29 dy_30 dxFrom_27) fun y9 =>
      (g_conv_At_0 N n (y9).1 ((y9).2).1 (((y9).2).2).1 ((((y9).2).2).2).1 (((((y9).2).2).2).2).1 ((((((y9).2).2).2).2).2).1 (((((((y9).2).2).2).2).2).2).1 ((((((((y9).2).2).2).2).2).2).2).1 (((((((((y9).2).2).2).2).2).2).2).2).1 ((((((((((y9).2).2).2).2).2).2).2).2).2).1 (((((((((((y9).2).2).2).2).2).2).2).2).2).2).1 ((((((((((((y9).2).2).2).2).2).2).2).2).2).2).2).1 (((((((((((((y9).2).2).2).2).2).2).2).2).2).2).2).2).1 ((((((((((((((y9).2).2).2).2).2).2).2).2).2).2).2).2).2).1 (((((((((((((((y9).2).2).2).2).2).2).2).2).2).2).2).2).2).2).1))
      (
      some (s_29, ()))

def F_conv_At (N : Nat) (args_0 : List Int) (a_1 : List Int) (k_2 : List Int) (ga_3 : ((List Int × Bool) × List Int)) (gk_4 : ((List Int × Bool) × List Int)) (i_5 : Int) (ow_6 : Int) : Option (Int × Unit) :=
  cond (decide (0 < (List.length args_0)))
    (
    cond (decide (1 < (List.length args_0)))
      (
      cond (decide (2 < (List.length args_0)))
        (
        cond (decide (2 < (List.length a_1)))
          (
          cond (decide (3 < (List.length k_2)))
            (
            cond (decide (@Ne Int (List.getD k_2 3 (0 : Int)) (0 : Int)))
              (
              cond (decide (@Ne Int (List.getD k_2 3 (0 : Int)) (0 : Int)))
                (
                cond (decide (@Ne Int ow_6 (0 : Int)))
                  (
                  cond (decide (@Ne Int (List.getD k_2 3 (0 : Int)) (0 : Int)))
                    (
                    cond (decide (@Ne Int ow_6 (0 : Int)))
                      (
                      cond (decide (0 < (List.length a_1)))
                        (
                        cond (decide (0 < (List.length k_2)))
                          (
                          Option.bind (F_conv_Inside N (List.getD a_1 0 (0 : Int)) (List.getD k_2 0 (0 : Int)) (List.getD args_0 0 (0 : Int)) (List.getD args_0 1 (0 : Int)) (wi64 (Int.tdiv (wi64 (Int.tdiv i_5 (List.getD k_2 3 (0 : Int)))) ow_6))) fun y0 =>
                          cond (decide (1 < (List.length a_1)))
                            (
                            cond (decide (1 < (List.length k_2)))
                              (
                              Option.bind (F_conv_Inside N (List.getD a_1 1 (0 : Int)) (List.getD k_2 1 (0 : Int)) (List.getD args_0 0 (0 : Int)) (List.getD args_0 1 (0 : Int)) (Int.tmod (wi64 (Int.tdiv i_5 (List.getD k_2 3 (0 : Int)))) ow_6)) fun y1 =>
                              Option.bind (g_conv_At_0 N N a_1 k_2 ga_3 gk_4 (List.getD args_0 2 (0 : Int)) (List.getD a_1 2 (0 : Int)) (List.getD k_2 3 (0 : Int)) (Int.tmod i_5 (List.getD k_2 3 (0 : Int))) (wi64 ((wi64 ((wi64 (Int.tdiv (wi64 (Int.tdiv i_5 (List.getD k_2 3 (0 : Int)))) ow_6)) * (List.getD args_0 0 (0 : Int)))) - (List.getD args_0 1 (0 : Int)))) (wi64 ((wi64 ((Int.tmod (wi64 (Int.tdiv i_5 (List.getD k_2 3 (0 : Int)))) ow_6) * (List.getD args_0 0 (0 : Int)))) - (List.getD args_0 1 (0 : Int)))) ((y0).2).1 (y1).1 ((y1).2).1 (0 : Int) (y0).1) fun y2 =>
                              Option.bind (F_tens_Wide N (y2).1) fun y3 =>
                              some y3)
                              (
                              none))
                            (
                            none))
                          (
                          none))
                        (
                        none))
                      (
                      none))
                    (
                    none))
                  (
                  none))
                (
                none))
              (
              none))
            (
            none))
          (
          none))
        (
        none))
      (
      none))
    (
    none)

abbrev c_conv_At (N : Nat) : CallSpec := ⟨34, ps_conv_At, rs_conv_At, fun x => F_conv_At N x.1 x.2.1 x.2.2.1 x.2.2.2.1 x.2.2.2.2.1 x.2.2.2.2.2.1 x.2.2.2.2.2.2.1⟩
abbrev l_conv_At_2 (N : Nat) : LoopSpec := ⟨2, h_conv_At_2, e_conv_At_2, fun x => g_conv_At_2 N N x.1 x.2.1 x.2.2.1 x.2.2.2.1 x.2.2.2.2.1 x.2.2.2.2.2.1 x.2.2.2.2.2.2.1 x.2.2.2.2.2.2.2.1 x.2.2.2.2.2.2.2.2.1 x.2.2.2.2.2.2.2.2.2.1 x.2.2.2.2.2.2.2.2.2.2.1 x.2.2.2.2.2.2.2.2.2.2.2.1 x.2.2.2.2.2.2.2.2.2.2.2.2.1 x.2.2.2.2.2.2.2.2.2.2.2.2.2.1 x.2.2.2.2.2.2.2.2.2.2.2.2.2.2.1 x.2.2.2.2.2.2.2.2.2.2.2.2.2.2.2.1 x.2.2.2.2.2.2.2.2.2.2.2.2.2.2.2.2.1 x.2.2.2.2.2.2.2.2.2.2.2.2.2.2.2.2.2.1⟩
abbrev l_conv_At_1 (N : Nat) : LoopSpec := ⟨1, h_conv_At_1, e_conv_At_1, fun x => g_conv_At_1 N N x.1 x.2.1 x.2.2.1 x.2.2.2.1 x.2.2.2.2.1 x.2.2.2.2.2.1 x.2.2.2.2.2.2.1 x.2.2.2.2.2.2.2.1 x.2.2.2.2.2.2.2.2.1 x.2.2.2.2.2.2.2.2.2.1 x.2.2.2.2.2.2.2.2.2.2.1 x.2.2.2.2.2.2.2.2.2.2.2.1 x.2.2.2.2.2.2.2.2.2.2.2.2.1 x.2.2.2.2.2.2.2.2.2.2.2.2.2.1 x.2.2.2.2.2.2.2.2.2.2.2.2.2.2.1 x.2.2.2.2.2.2.2.2.2.2.2.2.2.2.2.1⟩
abbrev l_conv_At_0 (N : Nat) : LoopSpec := ⟨0, h_conv_At_0, e_conv_At_0, fun x => g_conv_At_0 N N x.1 x.2.1 x.2.2.1 x.2.2.2.1 x.2.2.2.2.1 x.2.2.2.2.2.1 x.2.2.2.2.2.2.1 x.2.2.2.2.2.2.2.1 x.2.2.2.2.2.2.2.2.1 x.2.2.2.2.2.2.2.2.2.1 x.2.2.2.2.2.2.2.2.2.2.1 x.2.2.2.2.2.2.2.2.2.2.2.1 x.2.2.2.2.2.2.2.2.2.2.2.2.1 x.2.2.2.2.2.2.2.2.2.2.2.2.2.1 x.2.2.2.2.2.2.2.2.2.2.2.2.2.2.1⟩

theorem cs_conv_At_ok (S : Nat → Addr) (N : Nat) : CallsOK Go.Proofs.Tryd.prog E S (cs_conv_At N) :=
  .cons (F_conv_of_1_ok S N) (.cons (F_conv_Inside_ok S N) (.cons (F_tens_Wide_ok S N) (.nil)))
noncomputable abbrev b_conv_At_2 : Code := (loopsOf b_conv_At).getD 2 .skip
theorem g_conv_At_2_ok (S : Nat → Addr) (N : Nat) : ∀ n x y, (fun (x : Val (slotsTy h_conv_At_2)) => g_conv_At_2 N n x.1 x.2.1 x.2.2.1 x.2.2.2.1 x.2.2.2.2.1 x.2.2.2.2.2.1 x.2.2.2.2.2.2.1 x.2.2.2.2.2.2.2.1 x.2.2.2.2.2.2.2.2.1 x.2.2.2.2.2.2.2.2.2.1 x.2.2.2.2.2.2.2.2.2.2.1 x.2.2.2.2.2.2.2.2.2.2.2.1 x.2.2.2.2.2.2.2.2.2.2.2.2.1 x.2.2.2.2.2.2.2.2.2.2.2.2.2.1 x.2.2.2.2.2.2.2.2.2.2.2.2.2.2.1 x.2.2.2.2.2.2.2.2.2.2.2.2.2.2.2.1 x.2.2.2.2.2.2.2.2.2.2.2.2.2.2.2.2.1 x.2.2.2.2.2.2.2.2.2.2.2.2.2.2.2.2.2.1) x = some y → LoopCon Go.Proofs.Tryd.prog E S b_conv_At_2 (encSlots h_conv_At_2 x) (encEx e_conv_At_2 y).1 (encEx e_conv_At_2 y).2 :=
  loop_spec E_ok mixed (cs_conv_At_ok S N) (all := loopsOf b_conv_At) (ls := []) (.nil) (i := 2) (by kernel_rfl) (inner_of (by kernel_rfl)) (head := h_conv_At_2) (ex := e_conv_At_2) (fun n (x : Val (slotsTy h_conv_At_2)) => g_conv_At_2 N n x.1 x.2.1 x.2.2.1 x.2.2.2.1 x.2.2.2.2.1 x.2.2.2.2.2.1 x.2.2.2.2.2.2.1 x.2.2.2.2.2.2.2.1 x.2.2.2.2.2.2.2.2.1 x.2.2.2.2.2.2.2.2.2.1 x.2.2.2.2.2.2.2.2.2.2.1 x.2.2.2.2.2.2.2.2.2.2.2.1 x.2.2.2.2.2.2.2.2.2.2.2.2.1 x.2.2.2.2.2.2.2.2.2.2.2.2.2.1 x.2.2.2.2.2.2.2.2.2.2.2.2.2.2.1 x.2.2.2.2.2.2.2.2.2.2.2.2.2.2.2.1 x.2.2.2.2.2.2.2.2.2.2.2.2.2.2.2.2.1 x.2.2.2.2.2.2.2.2.2.2.2.2.2.2.2.2.2.1) (fun _ => rfl) (fun n x => by kernel_rfl)
noncomputable abbrev b_conv_At_1 : Code := (loopsOf b_conv_At).getD 1 .skip
theorem g_conv_At_1_ok (S : Nat → Addr) (N : Nat) : ∀ n x y, (fun (x : Val (slotsTy h_conv_At_1)) => g_conv_At_1 N n x.1 x.2.1 x.2.2.1 x.2.2.2.1 x.2.2.2.2.1 x.2.2.2.2.2.1 x.2.2.2.2.2.2.1 x.2.2.2.2.2.2.2.1 x.2.2.2.2.2.2.2.2.1 x.2.2.2.2.2.2.2.2.2.1 x.2.2.2.2.2.2.2.2.2.2.1 x.2.2.2.2.2.2.2.2.2.2.2.1 x.2.2.2.2.2.2.2.2.2.2.2.2.1 x.2.2.2.2.2.2.2.2.2.2.2.2.2.1 x.2.2.2.2.2.2.2.2.2.2.2.2.2.2.1 x.2.2.2.2.2.2.2.2.2.2.2.2.2.2.2.1) x = some y → LoopCon Go.Proofs.Tryd.prog E S b_conv_At_1 (encSlots h_conv_At_1 x) (encEx e_conv_At_1 y).1 (encEx e_conv_At_1 y).2 :=
  loop_spec E_ok mixed (cs_conv_At_ok S N) (all := loopsOf b_conv_At) (ls := [l_conv_At_2 N]) (.cons (by kernel_rfl) (g_conv_At_2_ok S N N) (.nil)) (i := 1) (by kernel_rfl) (inner_of (by kernel_rfl)) (head := h_conv_At_1) (ex := e_conv_At_1) (fun n (x : Val (slotsTy h_conv_At_1)) => g_conv_At_1 N n x.1 x.2.1 x.2.2.1 x.2.2.2.1 x.2.2.2.2.1 x.2.2.2.2.2.1 x.2.2.2.2.2.2.1 x.2.2.2.2.2.2.2.1 x.2.2.2.2.2.2.2.2.1 x.2.2.2.2.2.2.2.2.2.1 x.2.2.2.2.2.2.2.2.2.2.1 x.2.2.2.2.2.2.2.2.2.2.2.1 x.2.2.2.2.2.2.2.2.2.2.2.2.1 x.2.2.2.2.2.2.2.2.2.2.2.2.2.1 x.2.2.2.2.2.2.2.2.2.2.2.2.2.2.1 x.2.2.2.2.2.2.2.2.2.2.2.2.2.2.2.1) (fun _ => rfl) (fun n x => by kernel_rfl)
noncomputable abbrev b_conv_At_0 : Code := (loopsOf b_conv_At).getD 0 .skip
theorem g_conv_At_0_ok (S : Nat → Addr) (N : Nat) : ∀ n x y, (fun (x : Val (slotsTy h_conv_At_0)) => g_conv_At_0 N n x.1 x.2.1 x.2.2.1 x.2.2.2.1 x.2.2.2.2.1 x.2.2.2.2.2.1 x.2.2.2.2.2.2.1 x.2.2.2.2.2.2.2.1 x.2.2.2.2.2.2.2.2.1 x.2.2.2.2.2.2.2.2.2.1 x.2.2.2.2.2.2.2.2.2.2.1 x.2.2.2.2.2.2.2.2.2.2.2.1 x.2.2.2.2.2.2.2.2.2.2.2.2.1 x.2.2.2.2.2.2.2.2.2.2.2.2.2.1 x.2.2.2.2.2.2.2.2.2.2.2.2.2.2.1) x = some y → LoopCon Go.Proofs.Tryd.prog E S b_conv_At_0 (encSlots h_conv_At_0 x) (encEx e_conv_At_0 y).1 (encEx e_conv_At_0 y).2 :=
  loop_spec E_ok mixed (cs_conv_At_ok S N) (all := loopsOf b_conv_At) (ls := [l_conv_At_2 N, l_conv_At_1 N]) (.cons (by kernel_rfl) (g_conv_At_2_ok S N N) (.cons (by kernel_rfl) (g_conv_At_1_ok S N N) (.nil))) (i := 0) (by kernel_rfl) (inner_of (by kernel_rfl)) (head := h_conv_At_0) (ex := e_conv_At_0) (fun n (x : Val (slotsTy h_conv_At_0)) => g_conv_At_0 N n x.1 x.2.1 x.2.2.1 x.2.2.2.1 x.2.2.2.2.1 x.2.2.2.2.2.1 x.2.2.2.2.2.2.1 x.2.2.2.2.2.2.2.1 x.2.2.2.2.2.2.2.2.1 x.2.2.2.2.2.2.2.2.2.1 x.2.2.2.2.2.2.2.2.2.2.1 x.2.2.2.2.2.2.2.2.2.2.2.1 x.2.2.2.2.2.2.2.2.2.2.2.2.1 x.2.2.2.2.2.2.2.2.2.2.2.2.2.1 x.2.2.2.2.2.2.2.2.2.2.2.2.2.2.1) (fun _ => rfl) (fun n x => by kernel_rfl)
theorem F_conv_At_ok (S : Nat → Addr) (N : Nat) : ∀ x y, (c_conv_At N).g x = some y → FCon Go.Proofs.Tryd.prog E S 34 ps_conv_At rs_conv_At x y := by
  intro x y h
  exact fun_spec E_ok mixed (cs_conv_At_ok S N) (f := 34) (fi := ⟨b_conv_At, 155, Go.Proofs.Tryd.f34.results.toList⟩) (by kernel_rfl) (ls := [l_conv_At_2 N, l_conv_At_1 N, l_conv_At_0 N]) (.cons (by kernel_rfl) (g_conv_At_2_ok S N N) (.cons (by kernel_rfl) (g_conv_At_1_ok S N N) (.cons (by kernel_rfl) (g_conv_At_0_ok S N N) (.nil)))) (by kernel_rfl) (ps := ps_conv_At) (rs := rs_conv_At) (Eq.trans (b := F_conv_At N x.1 x.2.1 x.2.2.1 x.2.2.2.1 x.2.2.2.2.1 x.2.2.2.2.2.1 x.2.2.2.2.2.2.1) (by kernel_rfl) h)

/-! lodge/conv.Do -/

abbrev ps_conv_Do : List Ty := [(.st (.pair (.st (.pair (.sl (.int .i64)) .bool)) (.sl (.int .i64)))), (.st (.pair (.st (.pair (.sl (.int .i64)) .bool)) (.sl (.int .i64)))), (.sl (.int .i64))]
abbrev rs_conv_Do : List Slot := [.ag [.d (.sl (.int .i64)), .d .bool, .sl (.int .i64)], .data .err]
abbrev cs_conv_Do (N : Nat) : List CallSpec := [c_shape_Elems N, c_conv_result N, c_conv_of N, c_conv_At N]
noncomputable abbrev b_conv_Do : Code := (Go.Proofs.Tryd.f14.body).getD .skip

abbrev h_conv_Do_0 : List Slot := [.dead, .dead, .data (.sl (.int .i64)), .box [.d (.st (.pair (.st (.pair (.sl (.int .i64)) .bool)) (.sl (.int .i64))))], .box [.d (.st (.pair (.st (.pair (.sl (.int .i64)) .bool)) (.sl (.int .i64))))], .dead, .box [.sl (.int .i64), .d .bool, .sl (.int .i64)], .dead, .box [.d (.st (.pair (.sl (.int .i64)) .bool))], .dead, .box [.d (.sl (.int .i64)), .d .bool, .sl (.int .i64)], .dead, .dead, .dead, .dead, .dead, .dead, .dead, .dead, .dead, .dead, .dead, .dead, .dead, .dead, .dead, .dead, .data (.int .i64), .data (.int .i64), .dead, .dead, .dead, .dead, .dead, .dead, .dead, .dead, .dead, .dead, .dead, .dead, .dead, .dead, .dead, .dead, .dead, .dead, .dead, .dead, .dead, .dead, .dead, .dead, .dead, .dead]
abbrev e_conv_Do_0 : List (AX × List Slot) := [(AX.exit 0, [.dead, .dead, .dead, .dead, .dead, .dead, .box [.sl (.int .i64), .d .bool, .sl (.int .i64)], .dead, .dead, .dead, .box [.d (.sl (.int .i64)), .d .bool, .sl (.int .i64)], .dead, .dead, .dead, .dead, .dead, .dead, .dead, .dead, .dead, .dead, .dead, .dead, .dead, .dead, .dead, .dead, .dead, .dead, .dead, .dead, .dead, .dead, .dead, .dead, .dead, .dead, .dead, .dead, .dead, .dead, .dead, .dead, .dead, .dead, .dead, .dead, .dead, .dead, .dead, .dead, .dead, .dead, .dead, .dead])]
def g_conv_Do_0 (N : Nat) : Nat → List Int → (((List Int × Bool) × List Int) × Unit) → (((List Int × Bool) × List Int) × Unit) → (List Int × (Bool × (List Int × Unit))) → ((List Int × Bool) × Unit) → (List Int × (Bool × (List Int × Unit))) → Int → Int → Option ((List Int × (Bool × (List Int × Unit))) × ((List Int × (Bool × (List Int × Unit))) × Unit))
  | 0, _, _, _, _, _, _, _, _ => none
  | n + 1, args_2, a_3, k_4, t_6, d_8, out_10, t_27, t_28 =>
    cond (decide (t_28 < t_27))
      (
      Option.bind (F_conv_of N (a_3).1) fun y5 =>
      Option.bind (F_conv_of N (k_4).1) fun y6 =>
      cond (decide (1 < (List.length ((d_8).1).1)))
        (
        Option.bind (F_conv_At N args_2 (((a_3).1).1).1 (((k_4).1).1).1 (y5).1 (y6).1 t_28 (List.getD ((d_8).1).1 1 (0 : Int))) fun y7 =>
        cond (decide (((0 : Nat) + (List.length (((out_10).2).2).1)) = (List.length (((out_10).2).2).1)))
          (
          cond (decide ((((List.length (((out_10).2).2).1) + 1) * (8 + (1 : Nat))) ≤ Go.Eng.most))
            (
            cond (decide ((List.length (t_6).1) = (List.length (t_6).1)))
              (
              cond (decide ((List.length (((t_6).2).2).1) = (List.length (((t_6).2).2).1)))
                (
                cond (decide (((List.length (((out_10).2).2).1) + 1) = (List.length ((List.take (List.length (((out_10).2).2).1) (((out_10).2).2).1) ++ ((y7).1 :: ([] : List Int))))))
                  (
                  (g_conv_Do_0 N n args_2 a_3 k_4 t_6 d_8 ((out_10).1, (((out_10).2).1, (((List.take (List.length (((out_10).2).2).1) (((out_10).2).2).1) ++ ((y7).1 :: ([] : List Int))), ()))) t_27 (wi64 (t_28 + (1 : Int)))))
                  (
                  none))
                (
                none))
              (
              none))
            (
            none))
          (
          none))
        (
        none))
      (
      cond (decide ((List.length (t_6).1) = (List.length (t_6).1)))
        (
        cond (decide ((List.length (((t_6).2).2).1) = (List.length (((t_6).2).2).1)))
          (
          cond (decide ((List.length (((out_10).2).2).1) = (List.length (((out_10).2).2).1)))
            (
            some (t_6, (out_10, ())))
            (
            none))
          (
          none))
        (
        none))

def F_conv_Do (N : Nat) (a_0 : ((List Int × Bool) × List Int)) (k_1 : ((List Int × Bool) × List Int)) (args_2 : List Int) : Option ((List Int × (Bool × (List Int × Unit))) × (Er × Unit)) :=
  Option.bind (F_conv_result N a_0 k_1 args_2) fun y0 =>
  cond (Bool.not (Go.Eng.Er.isNil ((y0).2).1))
    (
    some ((([] : List Int), (false, (([] : List Int), ()))), (y0).2))
    (
    Option.bind (F_shape_Elems N ((y0).1).1) fun y1 =>
    Option.bind (g_conv_Do_0 N N args_2 (a_0, ()) (k_1, ()) (([] : List Int), (false, (([] : List Int), ()))) ((y0).1, ()) (((y0).1).1, (((y0).1).2, (([] : List Int), ()))) (y1).1 (0 : Int)) fun y2 =>
    cond (decide ((List.length (((((y2).2).1).2).2).1) = (List.length (((((y2).2).1).2).2).1)))
      (
      some (((y2).2).1, (Go.Eng.Er.nil, ())))
      (
      none))

abbrev c_conv_Do (N : Nat) : CallSpec := ⟨14, ps_conv_Do, rs_conv_Do, fun x => F_conv_Do N x.1 x.2.1 x.2.2.1⟩
abbrev l_conv_Do_0 (N : Nat) : LoopSpec := ⟨0, h_conv_Do_0, e_conv_Do_0, fun x => g_conv_Do_0 N N x.1 x.2.1 x.2.2.1 x.2.2.2.1 x.2.2.2.2.1 x.2.2.2.2.2.1 x.2.2.2.2.2.2.1 x.2.2.2.2.2.2.2.1⟩

theorem cs_conv_Do_ok (S : Nat → Addr) (N : Nat) : CallsOK Go.Proofs.Tryd.prog E S (cs_conv_Do N) :=
  .cons (F_shape_Elems_ok S N) (.cons (F_conv_result_ok S N) (.cons (F_conv_of_ok S N) (.cons (F_conv_At_ok S N) (.nil))))
noncomputable abbrev b_conv_Do_0 : Code := (loopsOf b_conv_Do).getD 0 .skip
theorem g_conv_Do_0_ok (S : Nat → Addr) (N : Nat) : ∀ n x y, (fun (x : Val (slotsTy h_conv_Do_0)) => g_conv_Do_0 N n x.1 x.2.1 x.2.2.1 x.2.2.2.1 x.2.2.2.2.1 x.2.2.2.2.2.1 x.2.2.2.2.2.2.1 x.2.2.2.2.2.2.2.1) x = some y → LoopCon Go.Proofs.Tryd.prog E S b_conv_Do_0 (encSlots h_conv_Do_0 x) (encEx e_conv_Do_0 y).1 (encEx e_conv_Do_0 y).2 :=
  loop_spec E_ok mixed (cs_conv_Do_ok S N) (all := loopsOf b_conv_Do) (ls := []) (.nil) (i := 0) (by kernel_rfl) (inner_of (by kernel_rfl)) (head := h_conv_Do_0) (ex := e_conv_Do_0) (fun n (x : Val (slotsTy h_conv_Do_0)) => g_conv_Do_0 N n x.1 x.2.1 x.2.2.1 x.2.2.2.1 x.2.2.2.2.1 x.2.2.2.2.2.1 x.2.2.2.2.2.2.1 x.2.2.2.2.2.2.2.1) (fun _ => rfl) (fun n x => by kernel_rfl)
theorem F_conv_Do_ok (S : Nat → Addr) (N : Nat) : ∀ x y, (c_conv_Do N).g x = some y → FCon Go.Proofs.Tryd.prog E S 14 ps_conv_Do rs_conv_Do x y := by
  intro x y h
  exact fun_spec E_ok mixed (cs_conv_Do_ok S N) (f := 14) (fi := ⟨b_conv_Do, 55, Go.Proofs.Tryd.f14.results.toList⟩) (by kernel_rfl) (ls := [l_conv_Do_0 N]) (.cons (by kernel_rfl) (g_conv_Do_0_ok S N N) (.nil)) (by kernel_rfl) (ps := ps_conv_Do) (rs := rs_conv_Do) (Eq.trans (b := F_conv_Do N x.1 x.2.1 x.2.2.1) (by kernel_rfl) h)

/-! lodge/lodgeref.SameInts -/

abbrev ps_lodgeref_SameInts : List Ty := [(.sl (.int .i64)), (.sl (.int .i64))]
abbrev rs_lodgeref_SameInts : List Slot := [.data .bool]
abbrev cs_lodgeref_SameInts (N : Nat) : List CallSpec := []
noncomputable abbrev b_lodgeref_SameInts : Code := (Go.Proofs.Tryd.f30.body).getD .skip

abbrev h_lodgeref_SameInts_0 : List Slot := [.data (.sl (.int .i64)), .data (.sl (.int .i64)), .dead, .dead, .dead, .data (.int .i64), .dead, .dead, .dead, .dead, .dead, .dead, .dead, .dead, .dead, .dead, .dead, .dead, .dead, .dead, .dead, .dead, .dead, .dead, .dead, .dead, .dead, .dead, .dead]
abbrev e_lodgeref_SameInts_0 : List (AX × List Slot) := [(AX.exit 0, [.dead, .dead, .dead, .dead, .dead, .dead, .dead, .dead, .dead, .dead, .dead, .dead, .dead, .dead, .dead, .dead, .dead, .dead, .dead, .dead, .dead, .dead, .dead, .dead, .dead, .dead, .dead, .dead, .dead]), (AX.ret, [.dead, .dead, .dead, .dead, .data .bool, .dead, .dead, .dead, .dead, .dead, .dead, .dead, .dead, .dead, .dead, .dead, .dead, .dead, .dead, .dead, .dead, .dead, .dead, .dead, .dead, .dead, .dead, .dead, .dead])]
def g_lodgeref_SameInts_0 (N : Nat) : Nat → List Int → List Int → Int → Option (Sum Unit (Bool × Unit))
  | 0, _, _, _ => none
  | n + 1, a_0, b_1, i_5 =>
    cond (decide (i_5 < (Nat.cast (List.length a_0) : Int)))
      (
      cond (decide ((0 : Int) ≤ i_5))
        (
        cond (decide ((Int.toNat i_5) < (List.length a_0)))
          (
          cond (decide ((0 : Int) ≤ i_5))
            (
            cond (decide ((Int.toNat i_5) < (List.length b_1)))
              (
              cond (Bool.not (decide ((List.getD a_0 (Int.toNat i_5) (0 : Int)) = (List.getD b_1 (Int.toNat i_5) (0 : Int)))))
                (
                some (Sum.inr (false, ())))
                (
                (g_lodgeref_SameInts_0 N n a_0 b_1 (wi64 (i_5 + (1 : Int))))))
              (
              none))
            (
            none))
          (
          none))
        (
        none))
      (
      some (Sum.inl ()))

def F_lodgeref_SameInts (N : Nat) (a_0 : List Int) (b_1 : List Int) : Option (Bool × Unit) :=
  cond (decide (@Ne Int (Nat.cast (List.length a_0) : Int) (Nat.cast (List.length b_1) : Int)))
    (
    some (false, ()))
    (
    Option.bind (g_lodgeref_SameInts_0 N N a_0 b_1 (0 : Int)) fun y0 =>
    Sum.elim (fun y1 =>
      some (true, ()))
      (fun y2 =>
      some y2) y0)

abbrev c_lodgeref_SameInts (N : Nat) : CallSpec := ⟨30, ps_lodgeref_SameInts, rs_lodgeref_SameInts, fun x => F_lodgeref_SameInts N x.1 x.2.1⟩
abbrev l_lodgeref_SameInts_0 (N : Nat) : LoopSpec := ⟨0, h_lodgeref_SameInts_0, e_lodgeref_SameInts_0, fun x => g_lodgeref_SameInts_0 N N x.1 x.2.1 x.2.2.1⟩

theorem cs_lodgeref_SameInts_ok (S : Nat → Addr) (N : Nat) : CallsOK Go.Proofs.Tryd.prog E S (cs_lodgeref_SameInts N) :=
  .nil
noncomputable abbrev b_lodgeref_SameInts_0 : Code := (loopsOf b_lodgeref_SameInts).getD 0 .skip
theorem g_lodgeref_SameInts_0_ok (S : Nat → Addr) (N : Nat) : ∀ n x y, (fun (x : Val (slotsTy h_lodgeref_SameInts_0)) => g_lodgeref_SameInts_0 N n x.1 x.2.1 x.2.2.1) x = some y → LoopCon Go.Proofs.Tryd.prog E S b_lodgeref_SameInts_0 (encSlots h_lodgeref_SameInts_0 x) (encEx e_lodgeref_SameInts_0 y).1 (encEx e_lodgeref_SameInts_0 y).2 :=
  loop_spec E_ok mixed (cs_lodgeref_SameInts_ok S N) (all := loopsOf b_lodgeref_SameInts) (ls := []) (.nil) (i := 0) (by kernel_rfl) (inner_of (by kernel_rfl)) (head := h_lodgeref_SameInts_0) (ex := e_lodgeref_SameInts_0) (fun n (x : Val (slotsTy h_lodgeref_SameInts_0)) => g_lodgeref_SameInts_0 N n x.1 x.2.1 x.2.2.1) (fun _ => rfl) (fun n x => by kernel_rfl)
theorem F_lodgeref_SameInts_ok (S : Nat → Addr) (N : Nat) : ∀ x y, (c_lodgeref_SameInts N).g x = some y → FCon Go.Proofs.Tryd.prog E S 30 ps_lodgeref_SameInts rs_lodgeref_SameInts x y := by
  intro x y h
  exact fun_spec E_ok mixed (cs_lodgeref_SameInts_ok S N) (f := 30) (fi := ⟨b_lodgeref_SameInts, 29, Go.Proofs.Tryd.f30.results.toList⟩) (by kernel_rfl) (ls := [l_lodgeref_SameInts_0 N]) (.cons (by kernel_rfl) (g_lodgeref_SameInts_0_ok S N N) (.nil)) (by kernel_rfl) (ps := ps_lodgeref_SameInts) (rs := rs_lodgeref_SameInts) (Eq.trans (b := F_lodgeref_SameInts N x.1 x.2.1) (by kernel_rfl) h)

/-! lodge/lodgelaw9.first -/

abbrev ps_lodgelaw9_first : List Ty := []
abbrev rs_lodgelaw9_first : List Slot := [.data .bool]
abbrev cs_lodgelaw9_first (N : Nat) : List CallSpec := [c_conv_Do N, c_lodgeref_SameInts N]
noncomputable abbrev b_lodgelaw9_first : Code := (Go.Proofs.Tryd.f9.body).getD .skip

def F_lodgelaw9_first (N : Nat)  : Option (Bool × Unit) :=
  Option.bind (F_conv_Do N ((((1 : Int) :: ((3 : Int) :: ((1 : Int) :: ([] : List Int)))), false), ((1 : Int) :: ((2 : Int) :: ((1 : Int) :: ([] : List Int))))) ((((1 : Int) :: ((1 : Int) :: ((1 : Int) :: ((1 : Int) :: ([] : List Int))))), false), ((3 : Int) :: ([] : List Int))) ((1 : Int) :: ((0 : Int) :: ((0 : Int) :: ([] : List Int))))) fun y0 =>
  cond (Go.Eng.Er.isNil ((y0).2).1)
    (
    cond (decide (((0 : Nat) + (List.length ((((y0).1).2).2).1)) ≤ (List.length ((((y0).1).2).2).1)))
      (
      Option.bind (F_lodgeref_SameInts N (List.take (List.length ((((y0).1).2).2).1) ((((y0).1).2).2).1) ((3 : Int) :: ((6 : Int) :: ((3 : Int) :: ([] : List Int))))) fun y1 =>
      some y1)
      (
      none))
    (
    some (false, ()))

abbrev c_lodgelaw9_first (N : Nat) : CallSpec := ⟨9, ps_lodgelaw9_first, rs_lodgelaw9_first, fun x => F_lodgelaw9_first N ⟩

theorem cs_lodgelaw9_first_ok (S : Nat → Addr) (N : Nat) : CallsOK Go.Proofs.Tryd.prog E S (cs_lodgelaw9_first N) :=
  .cons (F_conv_Do_ok S N) (.cons (F_lodgeref_SameInts_ok S N) (.nil))
theorem F_lodgelaw9_first_ok (S : Nat → Addr) (N : Nat) : ∀ x y, (c_lodgelaw9_first N).g x = some y → FCon Go.Proofs.Tryd.prog E S 9 ps_lodgelaw9_first rs_lodgelaw9_first x y := by
  intro x y h
  exact fun_spec E_ok mixed (cs_lodgelaw9_first_ok S N) (f := 9) (fi := ⟨b_lodgelaw9_first, 28, Go.Proofs.Tryd.f9.results.toList⟩) (by kernel_rfl) (ls := []) (.nil) (by kernel_rfl) (ps := ps_lodgelaw9_first) (rs := rs_lodgelaw9_first) (Eq.trans (b := F_lodgelaw9_first N ) (by kernel_rfl) h)

/-! lodge/lodgeworld.Desc -/

abbrev ps_lodgeworld_Desc : List Ty := [(.st (.pair (.sl (.int .i64)) .bool))]
abbrev rs_lodgeworld_Desc : List Slot := [.data .bool]
abbrev cs_lodgeworld_Desc (N : Nat) : List CallSpec := []
noncomputable abbrev b_lodgeworld_Desc : Code := (Go.Proofs.Tryd.f36.body).getD .skip

def F_lodgeworld_Desc (N : Nat) (d_0 : (List Int × Bool)) : Option (Bool × Unit) :=
  some ((decide ((Nat.cast (List.length (d_0).1) : Int) ≤ (8 : Int))), ())

abbrev c_lodgeworld_Desc (N : Nat) : CallSpec := ⟨36, ps_lodgeworld_Desc, rs_lodgeworld_Desc, fun x => F_lodgeworld_Desc N x.1⟩

theorem cs_lodgeworld_Desc_ok (S : Nat → Addr) (N : Nat) : CallsOK Go.Proofs.Tryd.prog E S (cs_lodgeworld_Desc N) :=
  .nil
theorem F_lodgeworld_Desc_ok (S : Nat → Addr) (N : Nat) : ∀ x y, (c_lodgeworld_Desc N).g x = some y → FCon Go.Proofs.Tryd.prog E S 36 ps_lodgeworld_Desc rs_lodgeworld_Desc x y := by
  intro x y h
  exact fun_spec E_ok mixed (cs_lodgeworld_Desc_ok S N) (f := 36) (fi := ⟨b_lodgeworld_Desc, 7, Go.Proofs.Tryd.f36.results.toList⟩) (by kernel_rfl) (ls := []) (.nil) (by kernel_rfl) (ps := ps_lodgeworld_Desc) (rs := rs_lodgeworld_Desc) (Eq.trans (b := F_lodgeworld_Desc N x.1) (by kernel_rfl) h)


end Go.Proofs.YtbpifndhkdbmhaaDoor.Lg
