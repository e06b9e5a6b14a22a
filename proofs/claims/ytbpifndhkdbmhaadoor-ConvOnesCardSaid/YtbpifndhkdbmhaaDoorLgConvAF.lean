/-
  The functions of the seat's program, as plain functions.
-/
import Derived.Test.YtbpifndhkdbmhaaDoorLgConvAE
namespace Go.Proofs.YtbpifndhkdbmhaaDoor.Lg
open Go Go.Eng Go.Proofs
set_option maxRecDepth 100000

/-! lodge/shape.Valid -/

abbrev ps_shape_Valid : List Ty := [(.st (.pair (.sl (.int .i64)) .bool))]
abbrev rs_shape_Valid : List Slot := [.data .err]
abbrev cs_shape_Valid (N : Nat) : List CallSpec := []
noncomputable abbrev b_shape_Valid : Code := (Go.Proofs.Tryd.f37.body).getD .skip

abbrev h_shape_Valid_0 : List Slot := [.dead, .box [.d (.st (.pair (.sl (.int .i64)) .bool))], .dead, .data (.int .i64), .dead, .dead, .dead, .dead, .dead, .dead, .dead, .dead, .dead, .dead, .data (.sl (.int .i64)), .data (.int .i64), .data (.int .i64), .dead, .dead, .dead, .dead, .dead, .dead, .dead, .dead, .dead, .dead, .dead, .dead, .dead, .dead, .dead, .dead, .dead, .dead, .dead, .dead, .dead, .dead, .dead, .dead, .dead]
abbrev e_shape_Valid_0 : List (AX × List Slot) := [(AX.exit 0, [.dead, .box [.d (.st (.pair (.sl (.int .i64)) .bool))], .dead, .data (.int .i64), .dead, .dead, .dead, .dead, .dead, .dead, .dead, .dead, .dead, .dead, .dead, .dead, .dead, .dead, .dead, .dead, .dead, .dead, .dead, .dead, .dead, .dead, .dead, .dead, .dead, .dead, .dead, .dead, .dead, .dead, .dead, .dead, .dead, .dead, .dead, .dead, .dead, .dead]), (AX.ret, [.dead, .dead, .data .err, .dead, .dead, .dead, .dead, .dead, .dead, .dead, .dead, .dead, .dead, .dead, .dead, .dead, .dead, .dead, .dead, .dead, .dead, .dead, .dead, .dead, .dead, .dead, .dead, .dead, .dead, .dead, .dead, .dead, .dead, .dead, .dead, .dead, .dead, .dead, .dead, .dead, .dead, .dead])]
def g_shape_Valid_0 (N : Nat) : Nat → ((List Int × Bool) × Unit) → Int → List Int → Int → Int → Option (Sum (((List Int × Bool) × Unit) × (Int × Unit)) (Er × Unit))
  | 0, _, _, _, _, _ => none
  | n + 1, d_1, n_3, t_14, t_15, t_16 =>
    cond (decide (t_16 < t_15))
      (
      cond (decide ((0 : Int) ≤ t_16))
        (
        cond (decide ((Int.toNat t_16) < (List.length t_14)))
          (
          cond (decide ((List.getD t_14 (Int.toNat t_16) (0 : Int)) < (1 : Int)))
            (
            some (Sum.inr ((Go.Eng.Er.s ErrRange), ())))
            (
            cond (decide ((256 : Int) < (List.getD t_14 (Int.toNat t_16) (0 : Int))))
              (
              some (Sum.inr ((Go.Eng.Er.s ErrRange), ())))
              (
              (g_shape_Valid_0 N n d_1 n_3 t_14 t_15 (wi64 (t_16 + (1 : Int)))))))
          (
          none))
        (
        none))
      (
      some (Sum.inl (d_1, (n_3, ()))))

abbrev h_shape_Valid_1 : List Slot := [.dead, .dead, .dead, .data (.int .i64), .dead, .dead, .dead, .dead, .dead, .dead, .dead, .dead, .dead, .dead, .dead, .dead, .dead, .dead, .dead, .dead, .dead, .dead, .dead, .dead, .dead, .dead, .dead, .dead, .dead, .data (.sl (.int .i64)), .data (.int .i64), .data (.int .i64), .dead, .dead, .dead, .dead, .dead, .dead, .dead, .dead, .dead, .dead]
abbrev e_shape_Valid_1 : List (AX × List Slot) := [(AX.exit 2, [.dead, .dead, .dead, .dead, .dead, .dead, .dead, .dead, .dead, .dead, .dead, .dead, .dead, .dead, .dead, .dead, .dead, .dead, .dead, .dead, .dead, .dead, .dead, .dead, .dead, .dead, .dead, .dead, .dead, .dead, .dead, .dead, .dead, .dead, .dead, .dead, .dead, .dead, .dead, .dead, .dead, .dead]), (AX.ret, [.dead, .dead, .data .err, .dead, .dead, .dead, .dead, .dead, .dead, .dead, .dead, .dead, .dead, .dead, .dead, .dead, .dead, .dead, .dead, .dead, .dead, .dead, .dead, .dead, .dead, .dead, .dead, .dead, .dead, .dead, .dead, .dead, .dead, .dead, .dead, .dead, .dead, .dead, .dead, .dead, .dead, .dead])]
def g_shape_Valid_1 (N : Nat) : Nat → Int → List Int → Int → Int → Option (Sum Unit (Er × Unit))
  | 0, _, _, _, _ => none
  | n + 1, n_3, t_29, t_30, t_31 =>
    cond (decide (t_31 < t_30))
      (
      cond (decide ((0 : Int) ≤ t_31))
        (
        cond (decide ((Int.toNat t_31) < (List.length t_29)))
          (
          cond (decide ((16384 : Int) < (wi64 (n_3 * (List.getD t_29 (Int.toNat t_31) (0 : Int))))))
            (
            some (Sum.inr ((Go.Eng.Er.s ErrMany), ())))
            (
            (g_shape_Valid_1 N n (wi64 (n_3 * (List.getD t_29 (Int.toNat t_31) (0 : Int)))) t_29 t_30 (wi64 (t_31 + (1 : Int))))))
          (
          none))
        (
        none))
      (
      some (Sum.inl ()))

def F_shape_Valid (N : Nat) (d_0 : (List Int × Bool)) : Option (Er × Unit) :=
  cond (decide ((4 : Int) < (Nat.cast (List.length (d_0).1) : Int)))
    (
    some ((Go.Eng.Er.s ErrMany), ()))
    (
    Option.bind (g_shape_Valid_0 N N (d_0, ()) (1 : Int) (d_0).1 (Nat.cast (List.length (d_0).1) : Int) (0 : Int)) fun y0 =>
    Sum.elim (fun y1 =>
      Option.bind (g_shape_Valid_1 N N ((y1).2).1 (((y1).1).1).1 (Nat.cast (List.length (((y1).1).1).1) : Int) (0 : Int)) fun y2 =>
      Sum.elim (fun y3 =>
        some (Go.Eng.Er.nil, ()))
        (fun y4 =>
        some y4) y2)
      (fun y5 =>
      some y5) y0)

abbrev c_shape_Valid (N : Nat) : CallSpec := ⟨37, ps_shape_Valid, rs_shape_Valid, fun x => F_shape_Valid N x.1⟩
abbrev l_shape_Valid_1 (N : Nat) : LoopSpec := ⟨1, h_shape_Valid_1, e_shape_Valid_1, fun x => g_shape_Valid_1 N N x.1 x.2.1 x.2.2.1 x.2.2.2.1⟩
abbrev l_shape_Valid_0 (N : Nat) : LoopSpec := ⟨0, h_shape_Valid_0, e_shape_Valid_0, fun x => g_shape_Valid_0 N N x.1 x.2.1 x.2.2.1 x.2.2.2.1 x.2.2.2.2.1⟩

theorem cs_shape_Valid_ok (S : Nat → Addr) (N : Nat) : CallsOK Go.Proofs.Tryd.prog E S (cs_shape_Valid N) :=
  .nil
noncomputable abbrev b_shape_Valid_1 : Code := (loopsOf b_shape_Valid).getD 1 .skip
theorem g_shape_Valid_1_ok (S : Nat → Addr) (N : Nat) : ∀ n x y, (fun (x : Val (slotsTy h_shape_Valid_1)) => g_shape_Valid_1 N n x.1 x.2.1 x.2.2.1 x.2.2.2.1) x = some y → LoopCon Go.Proofs.Tryd.prog E S b_shape_Valid_1 (encSlots h_shape_Valid_1 x) (encEx e_shape_Valid_1 y).1 (encEx e_shape_Valid_1 y).2 :=
  loop_spec E_ok mixed (cs_shape_Valid_ok S N) (all := loopsOf b_shape_Valid) (ls := []) (.nil) (i := 1) (by kernel_rfl) (inner_of (by kernel_rfl)) (head := h_shape_Valid_1) (ex := e_shape_Valid_1) (fun n (x : Val (slotsTy h_shape_Valid_1)) => g_shape_Valid_1 N n x.1 x.2.1 x.2.2.1 x.2.2.2.1) (fun _ => rfl) (fun n x => by kernel_rfl)
noncomputable abbrev b_shape_Valid_0 : Code := (loopsOf b_shape_Valid).getD 0 .skip
theorem g_shape_Valid_0_ok (S : Nat → Addr) (N : Nat) : ∀ n x y, (fun (x : Val (slotsTy h_shape_Valid_0)) => g_shape_Valid_0 N n x.1 x.2.1 x.2.2.1 x.2.2.2.1 x.2.2.2.2.1) x = some y → LoopCon Go.Proofs.Tryd.prog E S b_shape_Valid_0 (encSlots h_shape_Valid_0 x) (encEx e_shape_Valid_0 y).1 (encEx e_shape_Valid_0 y).2 :=
  loop_spec E_ok mixed (cs_shape_Valid_ok S N) (all := loopsOf b_shape_Valid) (ls := []) (.nil) (i := 0) (by kernel_rfl) (inner_of (by kernel_rfl)) (head := h_shape_Valid_0) (ex := e_shape_Valid_0) (fun n (x : Val (slotsTy h_shape_Valid_0)) => g_shape_Valid_0 N n x.1 x.2.1 x.2.2.1 x.2.2.2.1 x.2.2.2.2.1) (fun _ => rfl) (fun n x => by kernel_rfl)
theorem F_shape_Valid_ok (S : Nat → Addr) (N : Nat) : ∀ x y, (c_shape_Valid N).g x = some y → FCon Go.Proofs.Tryd.prog E S 37 ps_shape_Valid rs_shape_Valid x y := by
  intro x y h
  exact fun_spec E_ok mixed (cs_shape_Valid_ok S N) (f := 37) (fi := ⟨b_shape_Valid, 42, Go.Proofs.Tryd.f37.results.toList⟩) (by kernel_rfl) (ls := [l_shape_Valid_1 N, l_shape_Valid_0 N]) (.cons (by kernel_rfl) (g_shape_Valid_1_ok S N N) (.cons (by kernel_rfl) (g_shape_Valid_0_ok S N N) (.nil))) (by kernel_rfl) (ps := ps_shape_Valid) (rs := rs_shape_Valid) (Eq.trans (b := F_shape_Valid N x.1) (by kernel_rfl) h)

/-! lodge/shape.fair -/

abbrev ps_shape_fair : List Ty := [(.sl (.int .i64))]
abbrev rs_shape_fair : List Slot := [.data .bool]
abbrev cs_shape_fair (N : Nat) : List CallSpec := [c_shape_Valid N]
noncomputable abbrev b_shape_fair : Code := (Go.Proofs.Tryd.f60.body).getD .skip

def F_shape_fair (N : Nat) (shape_0 : List Int) : Option (Bool × Unit) :=
  Option.bind (F_shape_Valid N (shape_0, false)) fun y0 =>
  some ((Go.Eng.Er.isNil (y0).1), ())

abbrev c_shape_fair (N : Nat) : CallSpec := ⟨60, ps_shape_fair, rs_shape_fair, fun x => F_shape_fair N x.1⟩

theorem cs_shape_fair_ok (S : Nat → Addr) (N : Nat) : CallsOK Go.Proofs.Tryd.prog E S (cs_shape_fair N) :=
  .cons (F_shape_Valid_ok S N) (.nil)
theorem F_shape_fair_ok (S : Nat → Addr) (N : Nat) : ∀ x y, (c_shape_fair N).g x = some y → FCon Go.Proofs.Tryd.prog E S 60 ps_shape_fair rs_shape_fair x y := by
  intro x y h
  exact fun_spec E_ok mixed (cs_shape_fair_ok S N) (f := 60) (fi := ⟨b_shape_fair, 7, Go.Proofs.Tryd.f60.results.toList⟩) (by kernel_rfl) (ls := []) (.nil) (by kernel_rfl) (ps := ps_shape_fair) (rs := rs_shape_fair) (Eq.trans (b := F_shape_fair N x.1) (by kernel_rfl) h)

/-! lodge/shape.Elems -/

abbrev ps_shape_Elems : List Ty := [(.sl (.int .i64))]
abbrev rs_shape_Elems : List Slot := [.data (.int .i64)]
abbrev cs_shape_Elems (N : Nat) : List CallSpec := [c_shape_fair N]
noncomputable abbrev b_shape_Elems : Code := (Go.Proofs.Tryd.f33.body).getD .skip

abbrev h_shape_Elems_0 : List Slot := [.dead, .dead, .dead, .data (.int .i64), .dead, .dead, .dead, .dead, .dead, .data (.sl (.int .i64)), .data (.int .i64), .data (.int .i64), .dead, .dead, .dead, .dead, .dead, .dead, .dead, .dead]
abbrev e_shape_Elems_0 : List (AX × List Slot) := [(AX.exit 0, [.dead, .dead, .dead, .data (.int .i64), .dead, .dead, .dead, .dead, .dead, .dead, .dead, .dead, .dead, .dead, .dead, .dead, .dead, .dead, .dead, .dead])]
def g_shape_Elems_0 (N : Nat) : Nat → Int → List Int → Int → Int → Option (Int × Unit)
  | 0, _, _, _, _ => none
  | n + 1, n_3, t_9, t_10, t_11 =>
    cond (decide (t_11 < t_10))
      (
      cond (decide ((0 : Int) ≤ t_11))
        (
        cond (decide ((Int.toNat t_11) < (List.length t_9)))
          (
          (g_shape_Elems_0 N n (wi64 (n_3 * (List.getD t_9 (Int.toNat t_11) (0 : Int)))) t_9 t_10 (wi64 (t_11 + (1 : Int)))))
          (
          none))
        (
        none))
      (
      some (n_3, ()))

def F_shape_Elems (N : Nat) (shape_0 : List Int) : Option (Int × Unit) :=
  Option.bind (F_shape_fair N shape_0) fun y0 =>
  cond (Bool.not (y0).1)
    (
    some ((0 : Int), ()))
    (
    Option.bind (g_shape_Elems_0 N N (1 : Int) shape_0 (Nat.cast (List.length shape_0) : Int) (0 : Int)) fun y1 =>
    some y1)

abbrev c_shape_Elems (N : Nat) : CallSpec := ⟨33, ps_shape_Elems, rs_shape_Elems, fun x => F_shape_Elems N x.1⟩
abbrev l_shape_Elems_0 (N : Nat) : LoopSpec := ⟨0, h_shape_Elems_0, e_shape_Elems_0, fun x => g_shape_Elems_0 N N x.1 x.2.1 x.2.2.1 x.2.2.2.1⟩

theorem cs_shape_Elems_ok (S : Nat → Addr) (N : Nat) : CallsOK Go.Proofs.Tryd.prog E S (cs_shape_Elems N) :=
  .cons (F_shape_fair_ok S N) (.nil)
noncomputable abbrev b_shape_Elems_0 : Code := (loopsOf b_shape_Elems).getD 0 .skip
theorem g_shape_Elems_0_ok (S : Nat → Addr) (N : Nat) : ∀ n x y, (fun (x : Val (slotsTy h_shape_Elems_0)) => g_shape_Elems_0 N n x.1 x.2.1 x.2.2.1 x.2.2.2.1) x = some y → LoopCon Go.Proofs.Tryd.prog E S b_shape_Elems_0 (encSlots h_shape_Elems_0 x) (encEx e_shape_Elems_0 y).1 (encEx e_shape_Elems_0 y).2 :=
  loop_spec E_ok mixed (cs_shape_Elems_ok S N) (all := loopsOf b_shape_Elems) (ls := []) (.nil) (i := 0) (by kernel_rfl) (inner_of (by kernel_rfl)) (head := h_shape_Elems_0) (ex := e_shape_Elems_0) (fun n (x : Val (slotsTy h_shape_Elems_0)) => g_shape_Elems_0 N n x.1 x.2.1 x.2.2.1 x.2.2.2.1) (fun _ => rfl) (fun n x => by kernel_rfl)
theorem F_shape_Elems_ok (S : Nat → Addr) (N : Nat) : ∀ x y, (c_shape_Elems N).g x = some y → FCon Go.Proofs.Tryd.prog E S 33 ps_shape_Elems rs_shape_Elems x y := by
  intro x y h
  exact fun_spec E_ok mixed (cs_shape_Elems_ok S N) (f := 33) (fi := ⟨b_shape_Elems, 20, Go.Proofs.Tryd.f33.results.toList⟩) (by kernel_rfl) (ls := [l_shape_Elems_0 N]) (.cons (by kernel_rfl) (g_shape_Elems_0_ok S N N) (.nil)) (by kernel_rfl) (ps := ps_shape_Elems) (rs := rs_shape_Elems) (Eq.trans (b := F_shape_Elems N x.1) (by kernel_rfl) h)

/-! lodge/tens.fits -/

abbrev ps_tens_fits : List Ty := [(.int .i64), .bool]
abbrev rs_tens_fits : List Slot := [.data .bool]
abbrev cs_tens_fits (N : Nat) : List CallSpec := []
noncomputable abbrev b_tens_fits : Code := (Go.Proofs.Tryd.f78.body).getD .skip

def F_tens_fits (N : Nat) (n_0 : Int) (wide_1 : Bool) : Option (Bool × Unit) :=
  cond wide_1
    (
    cond (decide ((-(2147483648 : Int)) ≤ n_0))
      (
      some ((decide (n_0 ≤ (2147483647 : Int))), ()))
      (
      some (false, ())))
    (
    cond (decide ((-(128 : Int)) ≤ n_0))
      (
      some ((decide (n_0 ≤ (127 : Int))), ()))
      (
      some (false, ())))

abbrev c_tens_fits (N : Nat) : CallSpec := ⟨78, ps_tens_fits, rs_tens_fits, fun x => F_tens_fits N x.1 x.2.1⟩

theorem cs_tens_fits_ok (S : Nat → Addr) (N : Nat) : CallsOK Go.Proofs.Tryd.prog E S (cs_tens_fits N) :=
  .nil
theorem F_tens_fits_ok (S : Nat → Addr) (N : Nat) : ∀ x y, (c_tens_fits N).g x = some y → FCon Go.Proofs.Tryd.prog E S 78 ps_tens_fits rs_tens_fits x y := by
  intro x y h
  exact fun_spec E_ok mixed (cs_tens_fits_ok S N) (f := 78) (fi := ⟨b_tens_fits, 18, Go.Proofs.Tryd.f78.results.toList⟩) (by kernel_rfl) (ls := []) (.nil) (by kernel_rfl) (ps := ps_tens_fits) (rs := rs_tens_fits) (Eq.trans (b := F_tens_fits N x.1 x.2.1) (by kernel_rfl) h)

/-! lodge/tens.Valid -/

abbrev ps_tens_Valid : List Ty := [(.st (.pair (.st (.pair (.sl (.int .i64)) .bool)) (.sl (.int .i64))))]
abbrev rs_tens_Valid : List Slot := [.data .err]
abbrev cs_tens_Valid (N : Nat) : List CallSpec := [c_shape_Valid N, c_shape_Elems N, c_tens_fits N]
noncomputable abbrev b_tens_Valid : Code := (Go.Proofs.Tryd.f59.body).getD .skip

abbrev h_tens_Valid_0 : List Slot := [.dead, .box [.d (.st (.pair (.st (.pair (.sl (.int .i64)) .bool)) (.sl (.int .i64))))], .dead, .dead, .dead, .dead, .dead, .dead, .dead, .dead, .dead, .dead, .dead, .dead, .dead, .dead, .dead, .dead, .dead, .dead, .dead, .dead, .data (.sl (.int .i64)), .data (.int .i64), .data (.int .i64), .dead, .dead, .dead, .dead, .dead, .dead, .dead, .dead, .dead, .dead, .dead, .dead, .dead, .dead, .dead, .dead]
abbrev e_tens_Valid_0 : List (AX × List Slot) := [(AX.exit 0, [.dead, .dead, .dead, .dead, .dead, .dead, .dead, .dead, .dead, .dead, .dead, .dead, .dead, .dead, .dead, .dead, .dead, .dead, .dead, .dead, .dead, .dead, .dead, .dead, .dead, .dead, .dead, .dead, .dead, .dead, .dead, .dead, .dead, .dead, .dead, .dead, .dead, .dead, .dead, .dead, .dead]), (AX.ret, [.dead, .dead, .data .err, .dead, .dead, .dead, .dead, .dead, .dead, .dead, .dead, .dead, .dead, .dead, .dead, .dead, .dead, .dead, .dead, .dead, .dead, .dead, .dead, .dead, .dead, .dead, .dead, .dead, .dead, .dead, .dead, .dead, .dead, .dead, .dead, .dead, .dead, .dead, .dead, .dead, .dead])]
def g_tens_Valid_0 (N : Nat) : Nat → (((List Int × Bool) × List Int) × Unit) → List Int → Int → Int → Option (Sum Unit (Er × Unit))
  | 0, _, _, _, _ => none
  | n + 1, t_1, t_22, t_23, t_24 =>
    cond (decide (t_24 < t_23))
      (
      cond (decide ((0 : Int) ≤ t_24))
        (
        cond (decide ((Int.toNat t_24) < (List.length t_22)))
          (
          Option.bind (F_tens_fits N (List.getD t_22 (Int.toNat t_24) (0 : Int)) (((t_1).1).1).2) fun y3 =>
          cond (Bool.not (y3).1)
            (
            some (Sum.inr ((Go.Eng.Er.at t_24 ErrRange), ())))
            (
            (g_tens_Valid_0 N n t_1 t_22 t_23 (wi64 (t_24 + (1 : Int))))))
          (
          none))
        (
        none))
      (
      some (Sum.inl ()))

def F_tens_Valid (N : Nat) (t_0 : ((List Int × Bool) × List Int)) : Option (Er × Unit) :=
  Option.bind (F_shape_Valid N (t_0).1) fun y0 =>
  cond (Bool.not (Go.Eng.Er.isNil (y0).1))
    (
    some y0)
    (
    Option.bind (F_shape_Elems N ((t_0).1).1) fun y1 =>
    cond (decide (@Ne Int (Nat.cast (List.length (t_0).2) : Int) (y1).1))
      (
      some ((Go.Eng.Er.s ErrShape), ()))
      (
      Option.bind (g_tens_Valid_0 N N (t_0, ()) (t_0).2 (Nat.cast (List.length (t_0).2) : Int) (0 : Int)) fun y2 =>
      Sum.elim (fun y3 =>
        some (Go.Eng.Er.nil, ()))
        (fun y4 =>
        some y4) y2))

abbrev c_tens_Valid (N : Nat) : CallSpec := ⟨59, ps_tens_Valid, rs_tens_Valid, fun x => F_tens_Valid N x.1⟩
abbrev l_tens_Valid_0 (N : Nat) : LoopSpec := ⟨0, h_tens_Valid_0, e_tens_Valid_0, fun x => g_tens_Valid_0 N N x.1 x.2.1 x.2.2.1 x.2.2.2.1⟩

theorem cs_tens_Valid_ok (S : Nat → Addr) (N : Nat) : CallsOK Go.Proofs.Tryd.prog E S (cs_tens_Valid N) :=
  .cons (F_shape_Valid_ok S N) (.cons (F_shape_Elems_ok S N) (.cons (F_tens_fits_ok S N) (.nil)))
noncomputable abbrev b_tens_Valid_0 : Code := (loopsOf b_tens_Valid).getD 0 .skip
theorem g_tens_Valid_0_ok (S : Nat → Addr) (N : Nat) : ∀ n x y, (fun (x : Val (slotsTy h_tens_Valid_0)) => g_tens_Valid_0 N n x.1 x.2.1 x.2.2.1 x.2.2.2.1) x = some y → LoopCon Go.Proofs.Tryd.prog E S b_tens_Valid_0 (encSlots h_tens_Valid_0 x) (encEx e_tens_Valid_0 y).1 (encEx e_tens_Valid_0 y).2 :=
  loop_spec E_ok mixed (cs_tens_Valid_ok S N) (all := loopsOf b_tens_Valid) (ls := []) (.nil) (i := 0) (by kernel_rfl) (inner_of (by kernel_rfl)) (head := h_tens_Valid_0) (ex := e_tens_Valid_0) (fun n (x : Val (slotsTy h_tens_Valid_0)) => g_tens_Valid_0 N n x.1 x.2.1 x.2.2.1 x.2.2.2.1) (fun _ => rfl) (fun n x => by kernel_rfl)
theorem F_tens_Valid_ok (S : Nat → Addr) (N : Nat) : ∀ x y, (c_tens_Valid N).g x = some y → FCon Go.Proofs.Tryd.prog E S 59 ps_tens_Valid rs_tens_Valid x y := by
  intro x y h
  exact fun_spec E_ok mixed (cs_tens_Valid_ok S N) (f := 59) (fi := ⟨b_tens_Valid, 41, Go.Proofs.Tryd.f59.results.toList⟩) (by kernel_rfl) (ls := [l_tens_Valid_0 N]) (.cons (by kernel_rfl) (g_tens_Valid_0_ok S N N) (.nil)) (by kernel_rfl) (ps := ps_tens_Valid) (rs := rs_tens_Valid) (Eq.trans (b := F_tens_Valid N x.1) (by kernel_rfl) h)

/-! lodge/tens.Narrow -/

abbrev ps_tens_Narrow : List Ty := [(.int .i64)]
abbrev rs_tens_Narrow : List Slot := [.data (.int .i64)]
abbrev cs_tens_Narrow (N : Nat) : List CallSpec := []
noncomputable abbrev b_tens_Narrow : Code := (Go.Proofs.Tryd.f38.body).getD .skip

def F_tens_Narrow (N : Nat) (n_0 : Int) : Option (Int × Unit) :=
  some ((Go.Eng.imax (-(128 : Int)) (Go.Eng.imin n_0 (127 : Int))), ())

abbrev c_tens_Narrow (N : Nat) : CallSpec := ⟨38, ps_tens_Narrow, rs_tens_Narrow, fun x => F_tens_Narrow N x.1⟩

theorem cs_tens_Narrow_ok (S : Nat → Addr) (N : Nat) : CallsOK Go.Proofs.Tryd.prog E S (cs_tens_Narrow N) :=
  .nil
theorem F_tens_Narrow_ok (S : Nat → Addr) (N : Nat) : ∀ x y, (c_tens_Narrow N).g x = some y → FCon Go.Proofs.Tryd.prog E S 38 ps_tens_Narrow rs_tens_Narrow x y := by
  intro x y h
  exact fun_spec E_ok mixed (cs_tens_Narrow_ok S N) (f := 38) (fi := ⟨b_tens_Narrow, 6, Go.Proofs.Tryd.f38.results.toList⟩) (by kernel_rfl) (ls := []) (.nil) (by kernel_rfl) (ps := ps_tens_Narrow) (rs := rs_tens_Narrow) (Eq.trans (b := F_tens_Narrow N x.1) (by kernel_rfl) h)

/-! lodge/conv.Result -/

abbrev ps_conv_Result : List Ty := [(.sl (.int .i64)), (.st (.pair (.sl (.int .i64)) .bool)), (.st (.pair (.sl (.int .i64)) .bool))]
abbrev rs_conv_Result : List Slot := [.data (.st (.pair (.sl (.int .i64)) .bool)), .data .err]
abbrev cs_conv_Result (N : Nat) : List CallSpec := [c_shape_Valid N, c_tens_Narrow N]
noncomputable abbrev b_conv_Result : Code := (Go.Proofs.Tryd.f16.body).getD .skip

abbrev h_conv_Result_0 : List Slot := [.data (.sl (.int .i64)), .dead, .dead, .dead, .box [.d (.st (.pair (.sl (.int .i64)) .bool))], .box [.d (.st (.pair (.sl (.int .i64)) .bool))], .box [.sl (.int .i64), .d .bool], .dead, .dead, .dead, .dead, .dead, .dead, .dead, .dead, .dead, .dead, .dead, .dead, .dead, .dead, .dead, .dead, .dead, .dead, .sl (.st (.pair (.sl (.int .i64)) .bool)), .data (.int .i64), .data (.int .i64), .dead, .dead, .dead, .dead, .dead, .dead, .dead, .dead, .dead, .dead, .dead, .dead, .dead, .dead, .dead, .dead, .dead, .dead, .dead, .dead, .dead, .dead, .dead, .dead, .dead, .dead, .dead, .dead, .dead, .dead, .dead, .dead, .dead, .dead, .dead, .dead, .dead, .dead, .dead, .dead, .dead, .dead, .dead, .dead, .dead, .dead, .dead, .dead, .dead, .dead, .dead, .dead, .dead, .dead, .dead, .dead, .dead, .dead, .dead, .dead, .dead, .dead, .dead, .dead, .dead, .dead, .dead, .dead, .dead, .dead, .dead, .dead, .dead, .dead, .dead, .dead, .dead, .dead, .dead, .dead, .dead, .dead, .dead, .dead, .dead, .dead, .dead, .dead, .dead, .dead, .dead, .dead, .dead, .dead, .dead, .dead, .dead, .dead, .dead, .dead, .dead, .dead, .dead, .dead, .dead, .dead, .dead, .dead, .dead, .dead, .dead, .dead, .dead, .dead, .dead, .dead, .dead, .dead, .dead, .dead, .dead, .dead, .dead, .dead, .dead]
abbrev e_conv_Result_0 : List (AX × List Slot) := [(AX.exit 0, [.data (.sl (.int .i64)), .dead, .dead, .dead, .box [.d (.st (.pair (.sl (.int .i64)) .bool))], .box [.d (.st (.pair (.sl (.int .i64)) .bool))], .box [.sl (.int .i64), .d .bool], .dead, .dead, .dead, .dead, .dead, .dead, .dead, .dead, .dead, .dead, .dead, .dead, .dead, .dead, .dead, .dead, .dead, .dead, .dead, .dead, .dead, .dead, .dead, .dead, .dead, .dead, .dead, .dead, .dead, .dead, .dead, .dead, .dead, .dead, .dead, .dead, .dead, .dead, .dead, .dead, .dead, .dead, .dead, .dead, .dead, .dead, .dead, .dead, .dead, .dead, .dead, .dead, .dead, .dead, .dead, .dead, .dead, .dead, .dead, .dead, .dead, .dead, .dead, .dead, .dead, .dead, .dead, .dead, .dead, .dead, .dead, .dead, .dead, .dead, .dead, .dead, .dead, .dead, .dead, .dead, .dead, .dead, .dead, .dead, .dead, .dead, .dead, .dead, .dead, .dead, .dead, .dead, .dead, .dead, .dead, .dead, .dead, .dead, .dead, .dead, .dead, .dead, .dead, .dead, .dead, .dead, .dead, .dead, .dead, .dead, .dead, .dead, .dead, .dead, .dead, .dead, .dead, .dead, .dead, .dead, .dead, .dead, .dead, .dead, .dead, .dead, .dead, .dead, .dead, .dead, .dead, .dead, .dead, .dead, .dead, .dead, .dead, .dead, .dead, .dead, .dead, .dead, .dead, .dead, .dead, .dead]), (AX.ret, [.dead, .dead, .dead, .dead, .dead, .dead, .box [.sl (.int .i64), .d .bool], .data .err, .dead, .dead, .dead, .dead, .dead, .dead, .dead, .dead, .dead, .dead, .dead, .dead, .dead, .dead, .dead, .dead, .dead, .dead, .dead, .dead, .dead, .dead, .dead, .dead, .dead, .dead, .dead, .dead, .dead, .dead, .dead, .dead, .dead, .dead, .dead, .dead, .dead, .dead, .dead, .dead, .dead, .dead, .dead, .dead, .dead, .dead, .dead, .dead, .dead, .dead, .dead, .dead, .dead, .dead, .dead, .dead, .dead, .dead, .dead, .dead, .dead, .dead, .dead, .dead, .dead, .dead, .dead, .dead, .dead, .dead, .dead, .dead, .dead, .dead, .dead, .dead, .dead, .dead, .dead, .dead, .dead, .dead, .dead, .dead, .dead, .dead, .dead, .dead, .dead, .dead, .dead, .dead, .dead, .dead, .dead, .dead, .dead, .dead, .dead, .dead, .dead, .dead, .dead, .dead, .dead, .dead, .dead, .dead, .dead, .dead, .dead, .dead, .dead, .dead, .dead, .dead, .dead, .dead, .dead, .dead, .dead, .dead, .dead, .dead, .dead, .dead, .dead, .dead, .dead, .dead, .dead, .dead, .dead, .dead, .dead, .dead, .dead, .dead, .dead, .dead, .dead, .dead, .dead, .dead, .dead])]
def g_conv_Result_0 (N : Nat) : Nat → List Int → ((List Int × Bool) × Unit) → ((List Int × Bool) × Unit) → (List Int × (Bool × Unit)) → List ((List Int × Bool)) → Int → Int → Option (Sum (List Int × (((List Int × Bool) × Unit) × (((List Int × Bool) × Unit) × ((List Int × (Bool × Unit)) × Unit)))) ((List Int × (Bool × Unit)) × (Er × Unit)))
  | 0, _, _, _, _, _, _, _ => none
  | n + 1, args_0, a_4, k_5, t_6, t_25, t_26, t_27 =>
    cond (decide (t_27 < t_26))
      (
      cond (decide ((0 : Int) ≤ t_27))
        (
        cond (decide ((Int.toNat t_27) < (List.length t_25)))
          (
          cond (decide (((0 : Nat) + (Int.toNat t_27)) < (List.length t_25)))
            (
            Option.bind (F_shape_Valid N (List.getD t_25 ((0 : Nat) + (Int.toNat t_27)) (([] : List Int), false))) fun y1 =>
            cond (Bool.not (Go.Eng.Er.isNil (y1).1))
              (
              some (Sum.inr ((([] : List Int), (false, ())), y1)))
              (
              cond (decide ((List.length (t_6).1) = (List.length (t_6).1)))
                (
                cond (decide ((List.length t_25) = (List.length t_25)))
                  (
                  (g_conv_Result_0 N n args_0 a_4 k_5 t_6 t_25 t_26 (wi64 (t_27 + (1 : Int)))))
                  (
                  none))
                (
                none)))
            (
            none))
          (
          none))
        (
        none))
      (
      cond (decide ((List.length (t_6).1) = (List.length (t_6).1)))
        (
        some (Sum.inl (args_0, (a_4, (k_5, (t_6, ()))))))
        (
        none))

def F_conv_Result (N : Nat) (args_0 : List Int) (a_1 : (List Int × Bool)) (k_2 : (List Int × Bool)) : Option ((List Int × Bool) × (Er × Unit)) :=
  cond (decide (@Ne Int (Nat.cast (List.length args_0) : Int) (3 : Int)))
    (
    some ((([] : List Int), false), ((Go.Eng.Er.s ErrShape), ())))
    (
    Option.bind (g_conv_Result_0 N N args_0 (a_1, ()) (k_2, ()) (([] : List Int), (false, ())) (a_1 :: (k_2 :: ([] : List ((List Int) × Bool)))) (Nat.cast (2 : Nat) : Int) (0 : Int)) fun y0 =>
    Sum.elim (fun y1 =>
      cond (decide (@Ne Int (Nat.cast (List.length ((((y1).2).1).1).1) : Int) (3 : Int)))
        (
        some ((([] : List Int), false), ((Go.Eng.Er.s ErrShape), ())))
        (
        cond (decide (@Ne Int (Nat.cast (List.length (((((y1).2).2).1).1).1) : Int) (4 : Int)))
          (
          some ((([] : List Int), false), ((Go.Eng.Er.s ErrShape), ())))
          (
          cond (decide (2 < (List.length ((((y1).2).1).1).1)))
            (
            cond (decide (2 < (List.length (((((y1).2).2).1).1).1)))
              (
              cond (decide (@Ne Int (List.getD ((((y1).2).1).1).1 2 (0 : Int)) (List.getD (((((y1).2).2).1).1).1 2 (0 : Int))))
                (
                some ((([] : List Int), false), ((Go.Eng.Er.s ErrShape), ())))
                (
                cond ((((y1).2).1).1).2
                  (
                  some ((([] : List Int), false), ((Go.Eng.Er.s ErrShape), ())))
                  (
                  cond (((((y1).2).2).1).1).2
                    (
                    some ((([] : List Int), false), ((Go.Eng.Er.s ErrShape), ())))
                    (
                    cond (decide (0 < (List.length (y1).1)))
                      (
                      cond (decide (1 < (List.length (y1).1)))
                        (
                        cond (decide (2 < (List.length (y1).1)))
                          (
                          cond (decide ((List.getD (y1).1 0 (0 : Int)) < (1 : Int)))
                            (
                            some ((([] : List Int), false), ((Go.Eng.Er.s ErrRange), ())))
                            (
                            cond (decide ((16 : Int) < (List.getD (y1).1 0 (0 : Int))))
                              (
                              some ((([] : List Int), false), ((Go.Eng.Er.s ErrRange), ())))
                              (
                              cond (decide ((List.getD (y1).1 1 (0 : Int)) < (0 : Int)))
                                (
                                some ((([] : List Int), false), ((Go.Eng.Er.s ErrRange), ())))
                                (
                                cond (decide ((15 : Int) < (List.getD (y1).1 1 (0 : Int))))
                                  (
                                  some ((([] : List Int), false), ((Go.Eng.Er.s ErrRange), ())))
                                  (
                                  Option.bind (F_tens_Narrow N (List.getD (y1).1 2 (0 : Int))) fun y2 =>
                                  cond (decide (@Ne Int (y2).1 (List.getD (y1).1 2 (0 : Int))))
                                    (
                                    some ((([] : List Int), false), ((Go.Eng.Er.s ErrRange), ())))
                                    (
                                    cond (decide (0 < (List.length ((((y1).2).1).1).1)))
                                      (
                                      cond (decide (0 < (List.length (((((y1).2).2).1).1).1)))
                                        (
                                        cond (decide (1 < (List.length ((((y1).2).1).1).1)))
                                          (
                                          cond (decide (1 < (List.length (((((y1).2).2).1).1).1)))
                                            (
                                            cond (decide ((wi64 ((wi64 ((List.getD ((((y1).2).1).1).1 0 (0 : Int)) + (wi64 ((2 : Int) * (List.getD (y1).1 1 (0 : Int)))))) - (List.getD (((((y1).2).2).1).1).1 0 (0 : Int)))) < (0 : Int)))
                                              (
                                              some ((([] : List Int), false), ((Go.Eng.Er.s ErrShape), ())))
                                              (
                                              cond (decide ((wi64 ((wi64 ((List.getD ((((y1).2).1).1).1 1 (0 : Int)) + (wi64 ((2 : Int) * (List.getD (y1).1 1 (0 : Int)))))) - (List.getD (((((y1).2).2).1).1).1 1 (0 : Int)))) < (0 : Int)))
                                                (
                                                some ((([] : List Int), false), ((Go.Eng.Er.s ErrShape), ())))
                                                (
                                                cond (decide (@Ne Int (List.getD (y1).1 0 (0 : Int)) (0 : Int)))
                                                  (
                                                  cond (decide (@Ne Int (List.getD (y1).1 0 (0 : Int)) (0 : Int)))
                                                    (
                                                    cond (decide (3 < (List.length (((((y1).2).2).1).1).1)))
                                                      (
                                                      Option.bind (F_shape_Valid N (((wi64 ((wi64 (Int.tdiv (wi64 ((wi64 ((List.getD ((((y1).2).1).1).1 0 (0 : Int)) + (wi64 ((2 : Int) * (List.getD (y1).1 1 (0 : Int)))))) - (List.getD (((((y1).2).2).1).1).1 0 (0 : Int)))) (List.getD (y1).1 0 (0 : Int)))) + (1 : Int))) :: ((wi64 ((wi64 (Int.tdiv (wi64 ((wi64 ((List.getD ((((y1).2).1).1).1 1 (0 : Int)) + (wi64 ((2 : Int) * (List.getD (y1).1 1 (0 : Int)))))) - (List.getD (((((y1).2).2).1).1).1 1 (0 : Int)))) (List.getD (y1).1 0 (0 : Int)))) + (1 : Int))) :: ((List.getD (((((y1).2).2).1).1).1 3 (0 : Int)) :: ([] : List Int)))), true)) fun y3 =>
                                                      cond (Bool.not (Go.Eng.Er.isNil (y3).1))
                                                        (
                                                        some ((([] : List Int), false), y3))
                                                        (
                                                        some ((((wi64 ((wi64 (Int.tdiv (wi64 ((wi64 ((List.getD ((((y1).2).1).1).1 0 (0 : Int)) + (wi64 ((2 : Int) * (List.getD (y1).1 1 (0 : Int)))))) - (List.getD (((((y1).2).2).1).1).1 0 (0 : Int)))) (List.getD (y1).1 0 (0 : Int)))) + (1 : Int))) :: ((wi64 ((wi64 (Int.tdiv (wi64 ((wi64 ((List.getD ((((y1).2).1).1).1 1 (0 : Int)) + (wi64 ((2 : Int) * (List.getD (y1).1 1 (0 : Int)))))) - (List.getD (((((y1).2).2).1).1).1 1 (0 : Int)))) (List.getD (y1).1 0 (0 : Int)))) + (1 : Int))) :: ((List.getD (((((y1).2).2).1).1).1 3 (0 : Int)) :: ([] : List Int)))), true), (Go.Eng.Er.nil, ()))))
                                                      (
                                                      none))
                                                    (
                                                    none))
                                                  (
                                                  none))))
                                            (
                                            none))
                                          (
                                          none))
                                        (
                                        none))
                                      (
                                      none)))))))
                          (
                          none))
                        (
                        none))
                      (
                      none)))))
              (
              none))
            (
            none))))
      (fun y4 =>
      cond (decide (((0 : Nat) + (List.length ((y4).1).1)) ≤ (List.length ((y4).1).1)))
        (
        some (((List.take (List.length ((y4).1).1) ((y4).1).1), (((y4).1).2).1), (y4).2))
        (
        none)) y0)

abbrev c_conv_Result (N : Nat) : CallSpec := ⟨16, ps_conv_Result, rs_conv_Result, fun x => F_conv_Result N x.1 x.2.1 x.2.2.1⟩
abbrev l_conv_Result_0 (N : Nat) : LoopSpec := ⟨0, h_conv_Result_0, e_conv_Result_0, fun x => g_conv_Result_0 N N x.1 x.2.1 x.2.2.1 x.2.2.2.1 x.2.2.2.2.1 x.2.2.2.2.2.1 x.2.2.2.2.2.2.1⟩

theorem cs_conv_Result_ok (S : Nat → Addr) (N : Nat) : CallsOK Go.Proofs.Tryd.prog E S (cs_conv_Result N) :=
  .cons (F_shape_Valid_ok S N) (.cons (F_tens_Narrow_ok S N) (.nil))
noncomputable abbrev b_conv_Result_0 : Code := (loopsOf b_conv_Result).getD 0 .skip
theorem g_conv_Result_0_ok (S : Nat → Addr) (N : Nat) : ∀ n x y, (fun (x : Val (slotsTy h_conv_Result_0)) => g_conv_Result_0 N n x.1 x.2.1 x.2.2.1 x.2.2.2.1 x.2.2.2.2.1 x.2.2.2.2.2.1 x.2.2.2.2.2.2.1) x = some y → LoopCon Go.Proofs.Tryd.prog E S b_conv_Result_0 (encSlots h_conv_Result_0 x) (encEx e_conv_Result_0 y).1 (encEx e_conv_Result_0 y).2 :=
  loop_spec E_ok mixed (cs_conv_Result_ok S N) (all := loopsOf b_conv_Result) (ls := []) (.nil) (i := 0) (by kernel_rfl) (inner_of (by kernel_rfl)) (head := h_conv_Result_0) (ex := e_conv_Result_0) (fun n (x : Val (slotsTy h_conv_Result_0)) => g_conv_Result_0 N n x.1 x.2.1 x.2.2.1 x.2.2.2.1 x.2.2.2.2.1 x.2.2.2.2.2.1 x.2.2.2.2.2.2.1) (fun _ => rfl) (fun n x => by kernel_rfl)
theorem F_conv_Result_ok (S : Nat → Addr) (N : Nat) : ∀ x y, (c_conv_Result N).g x = some y → FCon Go.Proofs.Tryd.prog E S 16 ps_conv_Result rs_conv_Result x y := by
  intro x y h
  exact fun_spec E_ok mixed (cs_conv_Result_ok S N) (f := 16) (fi := ⟨b_conv_Result, 153, Go.Proofs.Tryd.f16.results.toList⟩) (by kernel_rfl) (ls := [l_conv_Result_0 N]) (.cons (by kernel_rfl) (g_conv_Result_0_ok S N N) (.nil)) (by kernel_rfl) (ps := ps_conv_Result) (rs := rs_conv_Result) (Eq.trans (b := F_conv_Result N x.1 x.2.1 x.2.2.1) (by kernel_rfl) h)

/-! lodge/conv.result -/

abbrev ps_conv_result : List Ty := [(.st (.pair (.st (.pair (.sl (.int .i64)) .bool)) (.sl (.int .i64)))), (.st (.pair (.st (.pair (.sl (.int .i64)) .bool)) (.sl (.int .i64)))), (.sl (.int .i64))]
abbrev rs_conv_result : List Slot := [.data (.st (.pair (.sl (.int .i64)) .bool)), .data .err]
abbrev cs_conv_result (N : Nat) : List CallSpec := [c_tens_Valid N, c_conv_Result N]
noncomputable abbrev b_conv_result : Code := (Go.Proofs.Tryd.f32.body).getD .skip

abbrev h_conv_result_0 : List Slot := [.dead, .dead, .data (.sl (.int .i64)), .box [.d (.st (.pair (.st (.pair (.sl (.int .i64)) .bool)) (.sl (.int .i64))))], .box [.d (.st (.pair (.st (.pair (.sl (.int .i64)) .bool)) (.sl (.int .i64))))], .dead, .box [.sl (.int .i64), .d .bool], .dead, .dead, .dead, .dead, .dead, .dead, .sl (.st (.pair (.st (.pair (.sl (.int .i64)) .bool)) (.sl (.int .i64)))), .data (.int .i64), .data (.int .i64), .dead, .dead, .dead, .dead, .dead, .dead, .dead, .dead, .dead, .dead, .dead, .dead, .dead, .dead, .dead, .dead, .dead, .dead]
abbrev e_conv_result_0 : List (AX × List Slot) := [(AX.exit 0, [.dead, .dead, .data (.sl (.int .i64)), .box [.d (.st (.pair (.st (.pair (.sl (.int .i64)) .bool)) (.sl (.int .i64))))], .box [.d (.st (.pair (.st (.pair (.sl (.int .i64)) .bool)) (.sl (.int .i64))))], .dead, .box [.sl (.int .i64), .d .bool], .dead, .dead, .dead, .dead, .dead, .dead, .dead, .dead, .dead, .dead, .dead, .dead, .dead, .dead, .dead, .dead, .dead, .dead, .dead, .dead, .dead, .dead, .dead, .dead, .dead, .dead, .dead]), (AX.ret, [.dead, .dead, .dead, .dead, .dead, .dead, .box [.sl (.int .i64), .d .bool], .data .err, .dead, .dead, .dead, .dead, .dead, .dead, .dead, .dead, .dead, .dead, .dead, .dead, .dead, .dead, .dead, .dead, .dead, .dead, .dead, .dead, .dead, .dead, .dead, .dead, .dead, .dead])]
def g_conv_result_0 (N : Nat) : Nat → List Int → (((List Int × Bool) × List Int) × Unit) → (((List Int × Bool) × List Int) × Unit) → (List Int × (Bool × Unit)) → List (((List Int × Bool) × List Int)) → Int → Int → Option (Sum (List Int × ((((List Int × Bool) × List Int) × Unit) × ((((List Int × Bool) × List Int) × Unit) × ((List Int × (Bool × Unit)) × Unit)))) ((List Int × (Bool × Unit)) × (Er × Unit)))
  | 0, _, _, _, _, _, _, _ => none
  | n + 1, args_2, a_3, k_4, t_6, t_13, t_14, t_15 =>
    cond (decide (t_15 < t_14))
      (
      cond (decide ((0 : Int) ≤ t_15))
        (
        cond (decide ((Int.toNat t_15) < (List.length t_13)))
          (
          cond (decide (((0 : Nat) + (Int.toNat t_15)) < (List.length t_13)))
            (
            Option.bind (F_tens_Valid N (List.getD t_13 ((0 : Nat) + (Int.toNat t_15)) ((([] : List Int), false), ([] : List Int)))) fun y1 =>
            cond (Bool.not (Go.Eng.Er.isNil (y1).1))
              (
              some (Sum.inr ((([] : List Int), (false, ())), y1)))
              (
              cond (decide ((List.length (t_6).1) = (List.length (t_6).1)))
                (
                cond (decide ((List.length t_13) = (List.length t_13)))
                  (
                  (g_conv_result_0 N n args_2 a_3 k_4 t_6 t_13 t_14 (wi64 (t_15 + (1 : Int)))))
                  (
                  none))
                (
                none)))
            (
            none))
          (
          none))
        (
        none))
      (
      cond (decide ((List.length (t_6).1) = (List.length (t_6).1)))
        (
        some (Sum.inl (args_2, (a_3, (k_4, (t_6, ()))))))
        (
        none))

def F_conv_result (N : Nat) (a_0 : ((List Int × Bool) × List Int)) (k_1 : ((List Int × Bool) × List Int)) (args_2 : List Int) : Option ((List Int × Bool) × (Er × Unit)) :=
  Option.bind (g_conv_result_0 N N args_2 (a_0, ()) (k_1, ()) (([] : List Int), (false, ())) (a_0 :: (k_1 :: ([] : List (((List Int) × Bool) × (List Int))))) (Nat.cast (2 : Nat) : Int) (0 : Int)) fun y0 =>
  Sum.elim (fun y1 =>
    Option.bind (F_conv_Result N (y1).1 ((((y1).2).1).1).1 (((((y1).2).2).1).1).1) fun y2 =>
    some y2)
    (fun y3 =>
    cond (decide (((0 : Nat) + (List.length ((y3).1).1)) ≤ (List.length ((y3).1).1)))
      (
      some (((List.take (List.length ((y3).1).1) ((y3).1).1), (((y3).1).2).1), (y3).2))
      (
      none)) y0

abbrev c_conv_result (N : Nat) : CallSpec := ⟨32, ps_conv_result, rs_conv_result, fun x => F_conv_result N x.1 x.2.1 x.2.2.1⟩
abbrev l_conv_result_0 (N : Nat) : LoopSpec := ⟨0, h_conv_result_0, e_conv_result_0, fun x => g_conv_result_0 N N x.1 x.2.1 x.2.2.1 x.2.2.2.1 x.2.2.2.2.1 x.2.2.2.2.2.1 x.2.2.2.2.2.2.1⟩

theorem cs_conv_result_ok (S : Nat → Addr) (N : Nat) : CallsOK Go.Proofs.Tryd.prog E S (cs_conv_result N) :=
  .cons (F_tens_Valid_ok S N) (.cons (F_conv_Result_ok S N) (.nil))
noncomputable abbrev b_conv_result_0 : Code := (loopsOf b_conv_result).getD 0 .skip
theorem g_conv_result_0_ok (S : Nat → Addr) (N : Nat) : ∀ n x y, (fun (x : Val (slotsTy h_conv_result_0)) => g_conv_result_0 N n x.1 x.2.1 x.2.2.1 x.2.2.2.1 x.2.2.2.2.1 x.2.2.2.2.2.1 x.2.2.2.2.2.2.1) x = some y → LoopCon Go.Proofs.Tryd.prog E S b_conv_result_0 (encSlots h_conv_result_0 x) (encEx e_conv_result_0 y).1 (encEx e_conv_result_0 y).2 :=
  loop_spec E_ok mixed (cs_conv_result_ok S N) (all := loopsOf b_conv_result) (ls := []) (.nil) (i := 0) (by kernel_rfl) (inner_of (by kernel_rfl)) (head := h_conv_result_0) (ex := e_conv_result_0) (fun n (x : Val (slotsTy h_conv_result_0)) => g_conv_result_0 N n x.1 x.2.1 x.2.2.1 x.2.2.2.1 x.2.2.2.2.1 x.2.2.2.2.2.1 x.2.2.2.2.2.2.1) (fun _ => rfl) (fun n x => by kernel_rfl)
theorem F_conv_result_ok (S : Nat → Addr) (N : Nat) : ∀ x y, (c_conv_result N).g x = some y → FCon Go.Proofs.Tryd.prog E S 32 ps_conv_result rs_conv_result x y := by
  intro x y h
  exact fun_spec E_ok mixed (cs_conv_result_ok S N) (f := 32) (fi := ⟨b_conv_result, 34, Go.Proofs.Tryd.f32.results.toList⟩) (by kernel_rfl) (ls := [l_conv_result_0 N]) (.cons (by kernel_rfl) (g_conv_result_0_ok S N N) (.nil)) (by kernel_rfl) (ps := ps_conv_result) (rs := rs_conv_result) (Eq.trans (b := F_conv_result N x.1 x.2.1 x.2.2.1) (by kernel_rfl) h)

/-! lodge/conv.of$1 -/

abbrev ps_conv_of_1 : List Ty := [(.int .i64), (.ref (.st (.pair (.st (.pair (.sl (.int .i64)) .bool)) (.sl (.int .i64)))))]
abbrev rs_conv_of_1 : List Slot := [.data (.int .i64)]
abbrev cs_conv_of_1 (N : Nat) : List CallSpec := []
noncomputable abbrev b_conv_of_1 : Code := (Go.Proofs.Tryd.f61.body).getD .skip

def F_conv_of_1 (N : Nat) (i_0 : Int) (t_1 : ((List Int × Bool) × List Int)) : Option (Int × Unit) :=
  cond (decide ((0 : Int) ≤ i_0))
    (
    cond (decide ((Int.toNat i_0) < (List.length (t_1).2)))
      (
      some ((List.getD (t_1).2 (Int.toNat i_0) (0 : Int)), ()))
      (
      none))
    (
    none)

abbrev c_conv_of_1 (N : Nat) : CallSpec := ⟨61, ps_conv_of_1, rs_conv_of_1, fun x => F_conv_of_1 N x.1 x.2.1⟩

theorem cs_conv_of_1_ok (S : Nat → Addr) (N : Nat) : CallsOK Go.Proofs.Tryd.prog E S (cs_conv_of_1 N) :=
  .nil
theorem F_conv_of_1_ok (S : Nat → Addr) (N : Nat) : ∀ x y, (c_conv_of_1 N).g x = some y → FCon Go.Proofs.Tryd.prog E S 61 ps_conv_of_1 rs_conv_of_1 x y := by
  intro x y h
  exact fun_spec E_ok mixed (cs_conv_of_1_ok S N) (f := 61) (fi := ⟨b_conv_of_1, 9, Go.Proofs.Tryd.f61.results.toList⟩) (by kernel_rfl) (ls := []) (.nil) (by kernel_rfl) (ps := ps_conv_of_1) (rs := rs_conv_of_1) (Eq.trans (b := F_conv_of_1 N x.1 x.2.1) (by kernel_rfl) h)

/-! lodge/conv.of -/

abbrev ps_conv_of : List Ty := [(.st (.pair (.st (.pair (.sl (.int .i64)) .bool)) (.sl (.int .i64))))]
abbrev rs_conv_of : List Slot := [.data (.clo 61 (.ref (.st (.pair (.st (.pair (.sl (.int .i64)) .bool)) (.sl (.int .i64))))))]
abbrev cs_conv_of (N : Nat) : List CallSpec := [c_conv_of_1 N]
noncomputable abbrev b_conv_of : Code := (Go.Proofs.Tryd.f35.body).getD .skip

def F_conv_of (N : Nat) (t_0 : ((List Int × Bool) × List Int)) : Option (((List Int × Bool) × List Int) × Unit) :=
  some (t_0, ())

abbrev c_conv_of (N : Nat) : CallSpec := ⟨35, ps_conv_of, rs_conv_of, fun x => F_conv_of N x.1⟩

theorem cs_conv_of_ok (S : Nat → Addr) (N : Nat) : CallsOK Go.Proofs.Tryd.prog E S (cs_conv_of N) :=
  .cons (F_conv_of_1_ok S N) (.nil)
theorem F_conv_of_ok (S : Nat → Addr) (N : Nat) : ∀ x y, (c_conv_of N).g x = some y → FCon Go.Proofs.Tryd.prog E S 35 ps_conv_of rs_conv_of x y := by
  intro x y h
  exact fun_spec E_ok mixed (cs_conv_of_ok S N) (f := 35) (fi := ⟨b_conv_of, 4, Go.Proofs.Tryd.f35.results.toList⟩) (by kernel_rfl) (ls := []) (.nil) (by kernel_rfl) (ps := ps_conv_of) (rs := rs_conv_of) (Eq.trans (b := F_conv_of N x.1) (by kernel_rfl) h)

/-! lodge/conv.Inside -/

abbrev ps_conv_Inside : List Ty := [(.int .i64), (.int .i64), (.int .i64), (.int .i64), (.int .i64)]
abbrev rs_conv_Inside : List Slot := [.data (.int .i64), .data (.int .i64)]
abbrev cs_conv_Inside (N : Nat) : List CallSpec := []
noncomputable abbrev b_conv_Inside : Code := (Go.Proofs.Tryd.f10.body).getD .skip

def F_conv_Inside (N : Nat) (n_0 : Int) (k_1 : Int) (stride_2 : Int) (pad_3 : Int) (o_4 : Int) : Option (Int × (Int × Unit)) :=
  cond (decide (n_0 < (0 : Int)))
    (
    some ((0 : Int), ((0 : Int), ())))
    (
    cond (decide (pad_3 < (0 : Int)))
      (
      some ((0 : Int), ((0 : Int), ())))
      (
      cond (decide (o_4 < (0 : Int)))
        (
        some ((0 : Int), ((0 : Int), ())))
        (
        cond (decide (k_1 < (1 : Int)))
          (
          some ((0 : Int), ((0 : Int), ())))
          (
          cond (decide (n_0 < (1 : Int)))
            (
            some ((0 : Int), ((0 : Int), ())))
            (
            cond (decide (stride_2 < (1 : Int)))
              (
              some ((0 : Int), ((0 : Int), ())))
              (
              cond (decide ((1048576 : Int) < (Go.Eng.imax (Go.Eng.imax (Go.Eng.imax (Go.Eng.imax n_0 k_1) stride_2) pad_3) o_4)))
                (
                some ((0 : Int), ((0 : Int), ())))
                (
                cond (decide ((Go.Eng.imin k_1 (wi64 (n_0 - (wi64 ((wi64 (o_4 * stride_2)) - pad_3))))) ≤ (Go.Eng.imax (0 : Int) (wi64 ((0 : Int) - (wi64 ((wi64 (o_4 * stride_2)) - pad_3)))))))
                  (
                  some ((0 : Int), ((0 : Int), ())))
                  (
                  some ((Go.Eng.imax (0 : Int) (wi64 ((0 : Int) - (wi64 ((wi64 (o_4 * stride_2)) - pad_3))))), ((Go.Eng.imin k_1 (wi64 (n_0 - (wi64 ((wi64 (o_4 * stride_2)) - pad_3))))), ()))))))))))

abbrev c_conv_Inside (N : Nat) : CallSpec := ⟨10, ps_conv_Inside, rs_conv_Inside, fun x => F_conv_Inside N x.1 x.2.1 x.2.2.1 x.2.2.2.1 x.2.2.2.2.1⟩

theorem cs_conv_Inside_ok (S : Nat → Addr) (N : Nat) : CallsOK Go.Proofs.Tryd.prog E S (cs_conv_Inside N) :=
  .nil
theorem F_conv_Inside_ok (S : Nat → Addr) (N : Nat) : ∀ x y, (c_conv_Inside N).g x = some y → FCon Go.Proofs.Tryd.prog E S 10 ps_conv_Inside rs_conv_Inside x y := by
  intro x y h
  exact fun_spec E_ok mixed (cs_conv_Inside_ok S N) (f := 10) (fi := ⟨b_conv_Inside, 64, Go.Proofs.Tryd.f10.results.toList⟩) (by kernel_rfl) (ls := []) (.nil) (by kernel_rfl) (ps := ps_conv_Inside) (rs := rs_conv_Inside) (Eq.trans (b := F_conv_Inside N x.1 x.2.1 x.2.2.1 x.2.2.2.1 x.2.2.2.2.1) (by kernel_rfl) h)

/-! lodge/tens.Wide -/

abbrev ps_tens_Wide : List Ty := [(.int .i64)]
abbrev rs_tens_Wide : List Slot := [.data (.int .i64)]
abbrev cs_tens_Wide (N : Nat) : List CallSpec := []
noncomputable abbrev b_tens_Wide : Code := (Go.Proofs.Tryd.f58.body).getD .skip

def F_tens_Wide (N : Nat) (n_0 : Int) : Option (Int × Unit) :=
  some ((wi64 (wi32 (wu32 (wu64 n_0)))), ())

abbrev c_tens_Wide (N : Nat) : CallSpec := ⟨58, ps_tens_Wide, rs_tens_Wide, fun x => F_tens_Wide N x.1⟩

theorem cs_tens_Wide_ok (S : Nat → Addr) (N : Nat) : CallsOK Go.Proofs.Tryd.prog E S (cs_tens_Wide N) :=
  .nil
theorem F_tens_Wide_ok (S : Nat → Addr) (N : Nat) : ∀ x y, (c_tens_Wide N).g x = some y → FCon Go.Proofs.Tryd.prog E S 58 ps_tens_Wide rs_tens_Wide x y := by
  intro x y h
  exact fun_spec E_ok mixed (cs_tens_Wide_ok S N) (f := 58) (fi := ⟨b_tens_Wide, 8, Go.Proofs.Tryd.f58.results.toList⟩) (by kernel_rfl) (ls := []) (.nil) (by kernel_rfl) (ps := ps_tens_Wide) (rs := rs_tens_Wide) (Eq.trans (b := F_tens_Wide N x.1) (by kernel_rfl) h)

/-! lodge/conv.At -/

abbrev ps_conv_At : List Ty := [(.sl (.int .i64)), (.sl (.int .i64)), (.sl (.int .i64)), (.clo 61 (.ref (.st (.pair (.st (.pair (.sl (.int .i64)) .bool)) (.sl (.int .i64)))))), (.clo 61 (.ref (.st (.pair (.st (.pair (.sl (.int .i64)) .bool)) (.sl (.int .i64)))))), (.int .i64), (.int .i64)]
abbrev rs_conv_At : List Slot := [.data (.int .i64)]
abbrev cs_conv_At (N : Nat) : List CallSpec := [c_conv_of_1 N, c_conv_Inside N, c_tens_Wide N]
noncomputable abbrev b_conv_At : Code := (Go.Proofs.Tryd.f34.body).getD .skip

abbrev h_conv_At_2 : List Slot := [.dead, .data (.sl (.int .i64)), .data (.sl (.int .i64)), .data (.clo 61 (.ref (.st (.pair (.st (.pair (.sl (.int .i64)) .bool)) (.sl (.int .i64)))))), .data (.clo 61 (.ref (.st (.pair (.st (.pair (.sl (.int .i64)) .bool)) (.sl (.int .i64)))))), .dead, .dead, .dead, .dead, .dead, .dead, .dead, .dead, .dead, .dead, .dead, .dead, .data (.int .i64), .data (.int .i64), .data (.int .i64), .data (.int .i64), .dead, .dead, .data (.int .i64), .data (.int .i64), .dead, .data (.int .i64), .data (.int .i64), .data (.int .i64), .data (.int .i64), .data (.int .i64), .data (.int .i64), .dead, .dead, .dead, .dead, .dead, .dead, .dead, .dead, .dead, .dead, .dead, .dead, .dead, .dead, .dead, .dead, .dead, .dead, .dead, .dead, .dead, .dead, .dead, .dead, .dead, .dead, .dead, .dead, .dead, .dead, .dead, .dead, .dead, .dead, .dead, .dead, .dead, .dead, .dead, .dead, .dead, .dead, .dead, .dead, .dead, .dead, .dead, .dead, .dead, .dead, .dead, .dead, .dead, .dead, .dead, .dead, .dead, .dead, .dead, .dead, .dead, .dead, .dead, .dead, .dead, .dead, .dead, .dead, .dead, .dead, .dead, .dead, .dead, .dead, .dead, .dead, .dead, .data (.int .i64), .data (.int .i64), .dead, .dead, .dead, .dead, .dead, .dead, .dead, .dead, .dead, .dead, .dead, .dead, .dead, .dead, .dead, .dead, .dead, .dead, .dead, .dead, .dead, .dead, .dead, .dead, .dead, .dead, .dead, .dead, .dead, .dead, .dead, .dead, .dead, .dead, .dead, .dead, .dead, .dead, .dead, .dead, .dead, .dead, .dead, .dead]
abbrev e_conv_At_2 : List (AX × List Slot) := [(AX.exit 4, [.dead, .data (.sl (.int .i64)), .data (.sl (.int .i64)), .data (.clo 61 (.ref (.st (.pair (.st (.pair (.sl (.int .i64)) .bool)) (.sl (.int .i64)))))), .data (.clo 61 (.ref (.st (.pair (.st (.pair (.sl (.int .i64)) .bool)) (.sl (.int .i64)))))), .dead, .dead, .dead, .dead, .dead, .dead, .dead, .dead, .dead, .dead, .dead, .dead, .data (.int .i64), .data (.int .i64), .data (.int .i64), .data (.int .i64), .dead, .dead, .data (.int .i64), .data (.int .i64), .dead, .data (.int .i64), .data (.int .i64), .data (.int .i64), .data (.int .i64), .data (.int .i64), .data (.int .i64), .dead, .dead, .dead, .dead, .dead, .dead, .dead, .dead, .dead, .dead, .dead, .dead, .dead, .dead, .dead, .dead, .dead, .dead, .dead, .dead, .dead, .dead, .dead, .dead, .dead, .dead, .dead, .dead, .dead, .dead, .dead, .dead, .dead, .dead, .dead, .dead, .dead, .dead, .dead, .dead, .dead, .dead, .dead, .dead, .dead, .dead, .dead, .dead, .dead, .dead, .dead, .dead, .dead, .dead, .dead, .dead, .dead, .dead, .dead, .dead, .dead, .dead, .dead, .dead, .dead, .dead, .dead, .dead, .dead, .dead, .dead, .dead, .dead, .dead, .dead, .dead, .dead, .dead, .dead, .dead, .dead, .dead, .dead, .dead, .dead, .dead, .dead, .dead, .dead, .dead, .dead, .dead, .dead, .dead, .dead, .dead, .dead, .dead, .dead, .dead, .dead, .dead, .dead, .dead, .dead, .dead, .dead, .dead, .dead, .dead, .dead, .dead, .dead, .dead, .dead, .dead, .dead, .dead, .dead, .dead, .dead, .dead, .dead])]
def g_conv_At_2 (N : Nat) : Nat → List Int → List Int → ((List Int × Bool) × List Int) → ((List Int × Bool) × List Int) → Int → Int → Int → Int → Int → Int → Int → Int → Int → Int → Int → Int → Int → Int → Option (List Int × (List Int × (((List Int × Bool) × List Int) × (((List Int × Bool) × List Int) × (Int × (Int × (Int × (Int × (Int × (Int × (Int × (Int × (Int × (Int × (Int × (Int × Unit))))))))))))))))
  | 0, _, _, _, _, _, _, _, _, _, _, _, _, _, _, _, _, _, _ => none
  | n + 1, a_1, k_2, ga_3, gk_4, za_17, c_18, n_19, o_20, top_23, left_24, dyTo_26, dxFrom_27, dxTo_28, s_29, dy_30, dx_31, t_109, t_110 =>
    cond (decide (t_110 < t_109))
      (
      cond (decide (1 < (List.length a_1)))
        (
        Option.bind (F_conv_of_1 N (wi64 ((wi64 ((wi64 ((wi64 ((wi64 ((wi64 (top_23 + dy_30)) * (List.getD a_1 1 (0 : Int)))) + left_24)) + dx_31)) * c_18)) + t_110)) ga_3) fun y4 =>
        cond (decide (1 < (List.length k_2)))
          (
          Option.bind (F_conv_of_1 N (wi64 ((wi64 ((wi64 ((wi64 ((wi64 ((wi64 (dy_30 * (List.getD k_2 1 (0 : Int)))) + dx_31)) * c_18)) + t_110)) * n_19)) + o_20)) gk_4) fun y5 =>
          (g_conv_At_2 N n a_1 k_2 ga_3 gk_4 za_17 c_18 n_19 o_20 top_23 left_24 dyTo_26 dxFrom_27 dxTo_28 (wi64 (s_29 + (wi64 ((wi64 ((y4).1 - za_17)) * (y5).1)))) dy_30 dx_31 t_109 (wi64 (t_110 + (1 : Int)))))
          (
          none))
        (
        none))
      (
      some (a_1, (k_2, (ga_3, (gk_4, (za_17, (c_18, (n_19, (o_20, (top_23, (left_24, (dyTo_26, (dxFrom_27, (dxTo_28, (s_29, (dy_30, (dx_31, ())))))))))))))))))

abbrev h_conv_At_1 : List Slot := [.dead, .data (.sl (.int .i64)), .data (.sl (.int .i64)), .data (.clo 61 (.ref (.st (.pair (.st (.pair (.sl (.int .i64)) .bool)) (.sl (.int .i64)))))), .data (.clo 61 (.ref (.st (.pair (.st (.pair (.sl (.int .i64)) .bool)) (.sl (.int .i64)))))), .dead, .dead, .dead, .dead, .dead, .dead, .dead, .dead, .dead, .dead, .dead, .dead, .data (.int .i64), .data (.int .i64), .data (.int .i64), .data (.int .i64), .dead, .dead, .data (.int .i64), .data (.int .i64), .dead, .data (.int .i64), .data (.int .i64), .data (.int .i64), .data (.int .i64), .data (.int .i64), .data (.int .i64), .dead, .dead, .dead, .dead, .dead, .dead, .dead, .dead, .dead, .dead, .dead, .dead, .dead, .dead, .dead, .dead, .dead, .dead, .dead, .dead, .dead, .dead, .dead, .dead, .dead, .dead, .dead, .dead, .dead, .dead, .dead, .dead, .dead, .dead, .dead, .dead, .dead, .dead, .dead, .dead, .dead, .dead, .dead, .dead, .dead, .dead, .dead, .dead, .dead, .dead, .dead, .dead, .dead, .dead, .dead, .dead, .dead, .dead, .dead, .dead, .dead, .dead, .dead, .dead, .dead, .dead, .dead, .dead, .dead, .dead, .dead, .dead, .dead, .dead, .dead, .dead, .dead, .dead, .dead, .dead, .dead, .dead, .dead, .dead, .dead, .dead, .dead, .dead, .dead, .dead, .dead, .dead, .dead, .dead, .dead, .dead, .dead, .dead, .dead, .dead, .dead, .dead, .dead, .dead, .dead, .dead, .dead, .dead, .dead, .dead, .dead, .dead, .dead, .dead, .dead, .dead, .dead, .dead, .dead, .dead, .dead, .dead, .dead]
abbrev e_conv_At_1 : List (AX × List Slot) := [(AX.exit 1, [.dead, .data (.sl (.int .i64)), .data (.sl (.int .i64)), .data (.clo 61 (.ref (.st (.pair (.st (.pair (.sl (.int .i64)) .bool)) (.sl (.int .i64)))))), .data (.clo 61 (.ref (.st (.pair (.st (.pair (.sl (.int .i64)) .bool)) (.sl (.int .i64)))))), .dead, .dead, .dead, .dead, .dead, .dead, .dead, .dead, .dead, .dead, .dead, .dead, .data (.int .i64), .data (.int .i64), .data (.int .i64), .data (.int .i64), .dead, .dead, .data (.int .i64), .data (.int .i64), .dead, .data (.int .i64), .data (.int .i64), .data (.int .i64), .data (.int .i64), .data (.int .i64), .dead, .dead, .dead, .dead, .dead, .dead, .dead, .dead, .dead, .dead, .dead, .dead, .dead, .dead, .dead, .dead, .dead, .dead, .dead, .dead, .dead, .dead, .dead, .dead, .dead, .dead, .dead, .dead, .dead, .dead, .dead, .dead, .dead, .dead, .dead, .dead, .dead, .dead, .dead, .dead, .dead, .dead, .dead, .dead, .dead, .dead, .dead, .dead, .dead, .dead, .dead, .dead, .dead, .dead, .dead, .dead, .dead, .dead, .dead, .dead, .dead, .dead, .dead, .dead, .dead, .dead, .dead, .dead, .dead, .dead, .dead, .dead, .dead, .dead, .dead, .dead, .dead, .dead, .dead, .dead, .dead, .dead, .dead, .dead, .dead, .dead, .dead, .dead, .dead, .dead, .dead, .dead, .dead, .dead, .dead, .dead, .dead, .dead, .dead, .dead, .dead, .dead, .dead, .dead, .dead, .dead, .dead, .dead, .dead, .dead, .dead, .dead, .dead, .dead, .dead, .dead, .dead, .dead, .dead, .dead, .dead, .dead, .dead, .dead])]
def g_conv_At_1 (N : Nat) : Nat → List Int → List Int → ((List Int × Bool) × List Int) → ((List Int × Bool) × List Int) → Int → Int → Int → Int → Int → Int → Int → Int → Int → Int → Int → Int → Option (List Int × (List Int × (((List Int × Bool) × List Int) × (((List Int × Bool) × List Int) × (Int × (Int × (Int × (Int × (Int × (Int × (Int × (Int × (Int × (Int × (Int × Unit)))))))))))))))
  | 0, _, _, _, _, _, _, _, _, _, _, _, _, _, _, _, _ => none
  | n + 1, a_1, k_2, ga_3, gk_4, za_17, c_18, n_19, o_20, top_23, left_24, dyTo_26, dxFrom_27, dxTo_28, s_29, dy_30, dx_31 =>
    cond (decide (dxTo_28 ≤ dx_31))
      (
      some (a_1, (k_2, (ga_3, (gk_4, (za_17, (c_18, (n_19, (o_20, (top_23, (left_24, (dyTo_26, (dxFrom_27, (dxTo_28, (s_29, ((wi64 (dy_30 + (1 : Int))), ()))))))))))))))))
      (
      Option.bind (g_conv_At_2 N N a_1 k_2 ga_3 gk_4 za_17 c_18 n_19 o_20 top_23 left_24 dyTo_26 dxFrom_27 dxTo_28 s_29 dy_30 dx_31 c_18 (0 : Int)) fun y7 =>
      (g_conv_At_1 N n (y7).1 ((y7).2).1 (((y7).2).2).1 ((((y7).2).2).2).1 (((((y7).2).2).2).2).1 ((((((y7).2).2).2).2).2).1 (((((((y7).2).2).2).2).2).2).1 ((((((((y7).2).2).2).2).2).2).2).1 (((((((((y7).2).2).2).2).2).2).2).2).1 ((((((((((y7).2).2).2).2).2).2).2).2).2).1 (((((((((((y7).2).2).2).2).2).2).2).2).2).2).1 ((((((((((((y7).2).2).2).2).2).2).2).2).2).2).2).1 (((((((((((((y7).2).2).2).2).2).2).2).2).2).2).2).2).1 ((((((((((((((y7).2).2).2).2).2).2).2).2).2).2).2).2).2).1 (((((((((((((((y7).2).2).2).2).2).2).2).2).2).2).2).2).2).2).1 (wi64 (((((((((((((((((y7).2).2).2).2).2).2).2).2).2).2).2).2).2).2).2).1 + (1 : Int)))))

abbrev h_conv_At_0 : List Slot := [.dead, .data (.sl (.int .i64)), .data (.sl (.int .i64)), .data (.clo 61 (.ref (.st (.pair (.st (.pair (.sl (.int .i64)) .bool)) (.sl (.int .i64)))))), .data (.clo 61 (.ref (.st (.pair (.st (.pair (.sl (.int .i64)) .bool)) (.sl (.int .i64)))))), .dead, .dead, .dead, .dead, .dead, .dead, .dead, .dead, .dead, .dead, .dead, .dead, .data (.int .i64), .data (.int .i64), .data (.int .i64), .data (.int .i64), .dead, .dead, .data (.int .i64), .data (.int .i64), .dead, .data (.int .i64), .data (.int .i64), .data (.int .i64), .data (.int .i64), .data (.int .i64), .dead, .dead, .dead, .dead, .dead, .dead, .dead, .dead, .dead, .dead, .dead, .dead, .dead, .dead, .dead, .dead, .dead, .dead, .dead, .dead, .dead, .dead, .dead, .dead, .dead, .dead, .dead, .dead, .dead, .dead, .dead, .dead, .dead, .dead, .dead, .dead, .dead, .dead, .dead, .dead, .dead, .dead, .dead, .dead, .dead, .dead, .dead, .dead, .dead, .dead, .dead, .dead, .dead, .dead, .dead, .dead, .dead, .dead, .dead, .dead, .dead, .dead, .dead, .dead, .dead, .dead, .dead, .dead, .dead, .dead, .dead, .dead, .dead, .dead, .dead, .dead, .dead, .dead, .dead, .dead, .dead, .dead, .dead, .dead, .dead, .dead, .dead, .dead, .dead, .dead, .dead, .dead, .dead, .dead, .dead, .dead, .dead, .dead, .dead, .dead, .dead, .dead, .dead, .dead, .dead, .dead, .dead, .dead, .dead, .dead, .dead, .dead, .dead, .dead, .dead, .dead, .dead, .dead, .dead, .dead, .dead, .dead, .dead, .dead]
abbrev e_conv_At_0 : List (AX × List Slot) := [(AX.exit 0, [.dead, .dead, .dead, .dead, .dead, .dead, .dead, .dead, .dead, .dead, .dead, .dead, .dead, .dead, .dead, .dead, .dead, .dead, .dead, .dead, .dead, .dead, .dead, .dead, .dead, .dead, .dead, .dead, .dead, .data (.int .i64), .dead, .dead, .dead, .dead, .dead, .dead, .dead, .dead, .dead, .dead, .dead, .dead, .dead, .dead, .dead, .dead, .dead, .dead, .dead, .dead, .dead, .dead, .dead, .dead, .dead, .dead, .dead, .dead, .dead, .dead, .dead, .dead, .dead, .dead, .dead, .dead, .dead, .dead, .dead, .dead, .dead, .dead, .dead, .dead, .dead, .dead, .dead, .dead, .dead, .dead, .dead, .dead, .dead, .dead, .dead, .dead, .dead, .dead, .dead, .dead, .dead, .dead, .dead, .dead, .dead, .dead, .dead, .dead, .dead, .dead, .dead, .dead, .dead, .dead, .dead, .dead, .dead, .dead, .dead, .dead, .dead, .dead, .dead, .dead, .dead, .dead, .dead, .dead, .dead, .dead, .dead, .dead, .dead, .dead, .dead, .dead, .dead, .dead, .dead, .dead, .dead, .dead, .dead, .dead, .dead, .dead, .dead, .dead, .dead, .dead, .dead, .dead, .dead, .dead, .dead, .dead, .dead, .dead, .dead, .dead, .dead, .dead, .dead, .dead, .dead])]
def g_conv_At_0 (N : Nat) : Nat → List Int → List Int → ((List Int × Bool) × List Int) → ((List Int × Bool) × List Int) → Int → Int → Int → Int → Int → Int → Int → Int → Int → Int → Int → Option (Int × Unit)
  | 0, _, _, _, _, _, _, _, _, _, _, _, _, _, _, _ => none
  | n + 1, a_1, k_2, ga_3, gk_4, za_17, c_18, n_19, o_20, top_23, left_24, dyTo_26, dxFrom_27, dxTo_28, s_29, dy_30 =>
    cond (decide (dy_30 < dyTo_26))
      (
      Option.bind (g_conv_At_1 N N a_1 k_2 ga_3 gk_4 za_17 c_18 n_19 o_20 top_23 left_24 dyTo_26 dxFrom_27 dxTo_28 s_29 dy_30 dxFrom_27) fun y9 =>
      (g_conv_At_0 N n (y9).1 ((y9).2).1 (((y9).2).2).1 ((((y9).2).2).2).1 (((((y9).2).2).2).2).1 ((((((y9).2).2).2).2).2).1 (((((((y9).2).2).2).2).2).2).1 ((((((((y9).2).2).2).2).2).2).2).1 (((((((((y9).2).2).2).2).2).2).2).2).1 ((((((((((y9).2).2).2).2).2).2).2).2).2).1 (((((((((((y9).2).2).2).2).2).2).2).2).2).2).1 ((((((((((((y9).2).2).2).2).2).2).2).2).2).2).2).1 (((((((((((((y9).2).2).2).2).2).2).2).2).2).2).2).2).1 ((((((((((((((y9).2).2).2).2).2).2).2).2).2).2).2).2).2).1 (((((((((((((((y9).2).2).2).2).2).2).2).2).2).2).2).2).2).2).1))
      (
      some (s_29, ()))

def F_conv_At (N : Nat) (args_0 : List Int) (a_1 : List Int) (k_2 : List Int) (ga_3 : ((List Int × Bool) × List Int)) (gk_4 : ((List Int × Bool) × List Int)) (i_5 : Int) (ow_6 : Int) : Option (Int × Unit) :=
  cond (decide (0 < (List.length args_0)))
    (
    cond (decide (1 < (List.length args_0)))
      (
      cond (decide (2 < (List.length args_0)))
        (
        cond (decide (2 < (List.length a_1)))
          (
          cond (decide (3 < (List.length k_2)))
            (
            cond (decide (@Ne Int (List.getD k_2 3 (0 : Int)) (0 : Int)))
              (
              cond (decide (@Ne Int (List.getD k_2 3 (0 : Int)) (0 : Int)))
                (
                cond (decide (@Ne Int ow_6 (0 : Int)))
                  (
                  cond (decide (@Ne Int (List.getD k_2 3 (0 : Int)) (0 : Int)))
                    (
                    cond (decide (@Ne Int ow_6 (0 : Int)))
                      (
                      cond (decide (0 < (List.length a_1)))
                        (
                        cond (decide (0 < (List.length k_2)))
                          (
                          Option.bind (F_conv_Inside N (List.getD a_1 0 (0 : Int)) (List.getD k_2 0 (0 : Int)) (List.getD args_0 0 (0 : Int)) (List.getD args_0 1 (0 : Int)) (wi64 (Int.tdiv (wi64 (Int.tdiv i_5 (List.getD k_2 3 (0 : Int)))) ow_6))) fun y0 =>
                          cond (decide (1 < (List.length a_1)))
                            (
                            cond (decide (1 < (List.length k_2)))
                              (
                              Option.bind (F_conv_Inside N (List.getD a_1 1 (0 : Int)) (List.getD k_2 1 (0 : Int)) (List.getD args_0 0 (0 : Int)) (List.getD args_0 1 (0 : Int)) (Int.tmod (wi64 (Int.tdiv i_5 (List.getD k_2 3 (0 : Int)))) ow_6)) fun y1 =>
                              Option.bind (g_conv_At_0 N N a_1 k_2 ga_3 gk_4 (List.getD args_0 2 (0 : Int)) (List.getD a_1 2 (0 : Int)) (List.getD k_2 3 (0 : Int)) (Int.tmod i_5 (List.getD k_2 3 (0 : Int))) (wi64 ((wi64 ((wi64 (Int.tdiv (wi64 (Int.tdiv i_5 (List.getD k_2 3 (0 : Int)))) ow_6)) * (List.getD args_0 0 (0 : Int)))) - (List.getD args_0 1 (0 : Int)))) (wi64 ((wi64 ((Int.tmod (wi64 (Int.tdiv i_5 (List.getD k_2 3 (0 : Int)))) ow_6) * (List.getD args_0 0 (0 : Int)))) - (List.getD args_0 1 (0 : Int)))) ((y0).2).1 (y1).1 ((y1).2).1 (0 : Int) (y0).1) fun y2 =>
                              Option.bind (F_tens_Wide N (y2).1) fun y3 =>
                              some y3)
                              (
                              none))
                            (
                            none))
                          (
                          none))
                        (
                        none))
                      (
                      none))
                    (
                    none))
                  (
                  none))
                (
                none))
              (
              none))
            (
            none))
          (
          none))
        (
        none))
      (
      none))
    (
    none)

abbrev c_conv_At (N : Nat) : CallSpec := ⟨34, ps_conv_At, rs_conv_At, fun x => F_conv_At N x.1 x.2.1 x.2.2.1 x.2.2.2.1 x.2.2.2.2.1 x.2.2.2.2.2.1 x.2.2.2.2.2.2.1⟩
abbrev l_conv_At_2 (N : Nat) : LoopSpec := ⟨2, h_conv_At_2, e_conv_At_2, fun x => g_conv_At_2 N N x.1 x.2.1 x.2.2.1 x.2.2.2.1 x.2.2.2.2.1 x.2.2.2.2.2.1 x.2.2.2.2.2.2.1 x.2.2.2.2.2.2.2.1 x.2.2.2.2.2.2.2.2.1 x.2.2.2.2.2.2.2.2.2.1 x.2.2.2.2.2.2.2.2.2.2.1 x.2.2.2.2.2.2.2.2.2.2.2.1 x.2.2.2.2.2.2.2.2.2.2.2.2.1 x.2.2.2.2.2.2.2.2.2.2.2.2.2.1 x.2.2.2.2.2.2.2.2.2.2.2.2.2.2.1 x.2.2.2.2.2.2.2.2.2.2.2.2.2.2.2.1 x.2.2.2.2.2.2.2.2.2.2.2.2.2.2.2.2.1 x.2.2.2.2.2.2.2.2.2.2.2.2.2.2.2.2.2.1⟩
abbrev l_conv_At_1 (N : Nat) : LoopSpec := ⟨1, h_conv_At_1, e_conv_At_1, fun x => g_conv_At_1 N N x.1 x.2.1 x.2.2.1 x.2.2.2.1 x.2.2.2.2.1 x.2.2.2.2.2.1 x.2.2.2.2.2.2.1 x.2.2.2.2.2.2.2.1 x.2.2.2.2.2.2.2.2.1 x.2.2.2.2.2.2.2.2.2.1 x.2.2.2.2.2.2.2.2.2.2.1 x.2.2.2.2.2.2.2.2.2.2.2.1 x.2.2.2.2.2.2.2.2.2.2.2.2.1 x.2.2.2.2.2.2.2.2.2.2.2.2.2.1 x.2.2.2.2.2.2.2.2.2.2.2.2.2.2.1 x.2.2.2.2.2.2.2.2.2.2.2.2.2.2.2.1⟩
abbrev l_conv_At_0 (N : Nat) : LoopSpec := ⟨0, h_conv_At_0, e_conv_At_0, fun x => g_conv_At_0 N N x.1 x.2.1 x.2.2.1 x.2.2.2.1 x.2.2.2.2.1 x.2.2.2.2.2.1 x.2.2.2.2.2.2.1 x.2.2.2.2.2.2.2.1 x.2.2.2.2.2.2.2.2.1 x.2.2.2.2.2.2.2.2.2.1 x.2.2.2.2.2.2.2.2.2.2.1 x.2.2.2.2.2.2.2.2.2.2.2.1 x.2.2.2.2.2.2.2.2.2.2.2.2.1 x.2.2.2.2.2.2.2.2.2.2.2.2.2.1 x.2.2.2.2.2.2.2.2.2.2.2.2.2.2.1⟩

theorem cs_conv_At_ok (S : Nat → Addr) (N : Nat) : CallsOK Go.Proofs.Tryd.prog E S (cs_conv_At N) :=
  .cons (F_conv_of_1_ok S N) (.cons (F_conv_Inside_ok S N) (.cons (F_tens_Wide_ok S N) (.nil)))
noncomputable abbrev b_conv_At_2 : Code := (loopsOf b_conv_At).getD 2 .skip
theorem g_conv_At_2_ok (S : Nat → Addr) (N : Nat) : ∀ n x y, (fun (x : Val (slotsTy h_conv_At_2)) => g_conv_At_2 N n x.1 x.2.1 x.2.2.1 x.2.2.2.1 x.2.2.2.2.1 x.2.2.2.2.2.1 x.2.2.2.2.2.2.1 x.2.2.2.2.2.2.2.1 x.2.2.2.2.2.2.2.2.1 x.2.2.2.2.2.2.2.2.2.1 x.2.2.2.2.2.2.2.2.2.2.1 x.2.2.2.2.2.2.2.2.2.2.2.1 x.2.2.2.2.2.2.2.2.2.2.2.2.1 x.2.2.2.2.2.2.2.2.2.2.2.2.2.1 x.2.2.2.2.2.2.2.2.2.2.2.2.2.2.1 x.2.2.2.2.2.2.2.2.2.2.2.2.2.2.2.1 x.2.2.2.2.2.2.2.2.2.2.2.2.2.2.2.2.1 x.2.2.2.2.2.2.2.2.2.2.2.2.2.2.2.2.2.1) x = some y → LoopCon Go.Proofs.Tryd.prog E S b_conv_At_2 (encSlots h_conv_At_2 x) (encEx e_conv_At_2 y).1 (encEx e_conv_At_2 y).2 :=
  loop_spec E_ok mixed (cs_conv_At_ok S N) (all := loopsOf b_conv_At) (ls := []) (.nil) (i := 2) (by kernel_rfl) (inner_of (by kernel_rfl)) (head := h_conv_At_2) (ex := e_conv_At_2) (fun n (x : Val (slotsTy h_conv_At_2)) => g_conv_At_2 N n x.1 x.2.1 x.2.2.1 x.2.2.2.1 x.2.2.2.2.1 x.2.2.2.2.2.1 x.2.2.2.2.2.2.1 x.2.2.2.2.2.2.2.1 x.2.2.2.2.2.2.2.2.1 x.2.2.2.2.2.2.2.2.2.1 x.2.2.2.2.2.2.2.2.2.2.1 x.2.2.2.2.2.2.2.2.2.2.2.1 x.2.2.2.2.2.2.2.2.2.2.2.2.1 x.2.2.2.2.2.2.2.2.2.2.2.2.2.1 x.2.2.2.2.2.2.2.2.2.2.2.2.2.2.1 x.2.2.2.2.2.2.2.2.2.2.2.2.2.2.2.1 x.2.2.2.2.2.2.2.2.2.2.2.2.2.2.2.2.1 x.2.2.2.2.2.2.2.2.2.2.2.2.2.2.2.2.2.1) (fun _ => rfl) (fun n x => by kernel_rfl)
noncomputable abbrev b_conv_At_1 : Code := (loopsOf b_conv_At).getD 1 .skip
theorem g_conv_At_1_ok (S : Nat → Addr) (N : Nat) : ∀ n x y, (fun (x : Val (slotsTy h_conv_At_1)) => g_conv_At_1 N n x.1 x.2.1 x.2.2.1 x.2.2.2.1 x.2.2.2.2.1 x.2.2.2.2.2.1 x.2.2.2.2.2.2.1 x.2.2.2.2.2.2.2.1 x.2.2.2.2.2.2.2.2.1 x.2.2.2.2.2.2.2.2.2.1 x.2.2.2.2.2.2.2.2.2.2.1 x.2.2.2.2.2.2.2.2.2.2.2.1 x.2.2.2.2.2.2.2.2.2.2.2.2.1 x.2.2.2.2.2.2.2.2.2.2.2.2.2.1 x.2.2.2.2.2.2.2.2.2.2.2.2.2.2.1 x.2.2.2.2.2.2.2.2.2.2.2.2.2.2.2.1) x = some y → LoopCon Go.Proofs.Tryd.prog E S b_conv_At_1 (encSlots h_conv_At_1 x) (encEx e_conv_At_1 y).1 (encEx e_conv_At_1 y).2 :=
  loop_spec E_ok mixed (cs_conv_At_ok S N) (all := loopsOf b_conv_At) (ls := [l_conv_At_2 N]) (.cons (by kernel_rfl) (g_conv_At_2_ok S N N) (.nil)) (i := 1) (by kernel_rfl) (inner_of (by kernel_rfl)) (head := h_conv_At_1) (ex := e_conv_At_1) (fun n (x : Val (slotsTy h_conv_At_1)) => g_conv_At_1 N n x.1 x.2.1 x.2.2.1 x.2.2.2.1 x.2.2.2.2.1 x.2.2.2.2.2.1 x.2.2.2.2.2.2.1 x.2.2.2.2.2.2.2.1 x.2.2.2.2.2.2.2.2.1 x.2.2.2.2.2.2.2.2.2.1 x.2.2.2.2.2.2.2.2.2.2.1 x.2.2.2.2.2.2.2.2.2.2.2.1 x.2.2.2.2.2.2.2.2.2.2.2.2.1 x.2.2.2.2.2.2.2.2.2.2.2.2.2.1 x.2.2.2.2.2.2.2.2.2.2.2.2.2.2.1 x.2.2.2.2.2.2.2.2.2.2.2.2.2.2.2.1) (fun _ => rfl) (fun n x => by kernel_rfl)
noncomputable abbrev b_conv_At_0 : Code := (loopsOf b_conv_At).getD 0 .skip
theorem g_conv_At_0_ok (S : Nat → Addr) (N : Nat) : ∀ n x y, (fun (x : Val (slotsTy h_conv_At_0)) => g_conv_At_0 N n x.1 x.2.1 x.2.2.1 x.2.2.2.1 x.2.2.2.2.1 x.2.2.2.2.2.1 x.2.2.2.2.2.2.1 x.2.2.2.2.2.2.2.1 x.2.2.2.2.2.2.2.2.1 x.2.2.2.2.2.2.2.2.2.1 x.2.2.2.2.2.2.2.2.2.2.1 x.2.2.2.2.2.2.2.2.2.2.2.1 x.2.2.2.2.2.2.2.2.2.2.2.2.1 x.2.2.2.2.2.2.2.2.2.2.2.2.2.1 x.2.2.2.2.2.2.2.2.2.2.2.2.2.2.1) x = some y → LoopCon Go.Proofs.Tryd.prog E S b_conv_At_0 (encSlots h_conv_At_0 x) (encEx e_conv_At_0 y).1 (encEx e_conv_At_0 y).2 :=
  loop_spec E_ok mixed (cs_conv_At_ok S N) (all := loopsOf b_conv_At) (ls := [l_conv_At_2 N, l_conv_At_1 N]) (.cons (by kernel_rfl) (g_conv_At_2_ok S N N) (.cons (by kernel_rfl) (g_conv_At_1_ok S N N) (.nil))) (i := 0) (by kernel_rfl) (inner_of (by kernel_rfl)) (head := h_conv_At_0) (ex := e_conv_At_0) (fun n (x : Val (slotsTy h_conv_At_0)) => g_conv_At_0 N n x.1 x.2.1 x.2.2.1 x.2.2.2.1 x.2.2.2.2.1 x.2.2.2.2.2.1 x.2.2.2.2.2.2.1 x.2.2.2.2.2.2.2.1 x.2.2.2.2.2.2.2.2.1 x.2.2.2.2.2.2.2.2.2.1 x.2.2.2.2.2.2.2.2.2.2.1 x.2.2.2.2.2.2.2.2.2.2.2.1 x.2.2.2.2.2.2.2.2.2.2.2.2.1 x.2.2.2.2.2.2.2.2.2.2.2.2.2.1 x.2.2.2.2.2.2.2.2.2.2.2.2.2.2.1) (fun _ => rfl) (fun n x => by kernel_rfl)
theorem F_conv_At_ok (S : Nat → Addr) (N : Nat) : ∀ x y, (c_conv_At N).g x = some y → FCon Go.Proofs.Tryd.prog E S 34 ps_conv_At rs_conv_At x y := by
  intro x y h
  exact fun_spec E_ok mixed (cs_conv_At_ok S N) (f := 34) (fi := ⟨b_conv_At, 155, Go.Proofs.Tryd.f34.results.toList⟩) (by kernel_rfl) (ls := [l_conv_At_2 N, l_conv_At_1 N, l_conv_At_0 N]) (.cons (by kernel_rfl) (g_conv_At_2_ok S N N) (.cons (by kernel_rfl) (g_conv_At_1_ok S N N) (.cons (by kernel_rfl) (g_conv_At_0_ok S N N) (.nil)))) (by kernel_rfl) (ps := ps_conv_At) (rs := rs_conv_At) (Eq.trans (b := F_conv_At N x.1 x.2.1 x.2.2.1 x.2.2.2.1 x.2.2.2.2.1 x.2.2.2.2.2.1 x.2.2.2.2.2.2.1) (by kernel_rfl) h)

/-! lodge/conv.Do -/

abbrev ps_conv_Do : List Ty := [(.st (.pair (.st (.pair (.sl (.int .i64)) .bool)) (.sl (.int .i64)))), (.st (.pair (.st (.pair (.sl (.int .i64)) .bool)) (.sl (.int .i64)))), (.sl (.int .i64))]
abbrev rs_conv_Do : List Slot := [.ag [.d (.sl (.int .i64)), .d .bool, .sl (.int .i64)], .data .err]
abbrev cs_conv_Do (N : Nat) : List CallSpec := [c_shape_Elems N, c_conv_result N, c_conv_of N, c_conv_At N]
noncomputable abbrev b_conv_Do : Code := (Go.Proofs.Tryd.f14.body).getD .skip

abbrev h_conv_Do_0 : List Slot := [.dead, .dead, .data (.sl (.int .i64)), .box [.d (.st (.pair (.st (.pair (.sl (.int .i64)) .bool)) (.sl (.int .i64))))], .box [.d (.st (.pair (.st (.pair (.sl (.int .i64)) .bool)) (.sl (.int .i64))))], .dead, .box [.sl (.int .i64), .d .bool, .sl (.int .i64)], .dead, .box [.d (.st (.pair (.sl (.int .i64)) .bool))], .dead, .box [.d (.sl (.int .i64)), .d .bool, .sl (.int .i64)], .dead, .dead, .dead, .dead, .dead, .dead, .dead, .dead, .dead, .dead, .dead, .dead, .dead, .dead, .dead, .dead, .data (.int .i64), .data (.int .i64), .dead, .dead, .dead, .dead, .dead, .dead, .dead, .dead, .dead, .dead, .dead, .dead, .dead, .dead, .dead, .dead, .dead, .dead, .dead, .dead, .dead, .dead, .dead, .dead, .dead, .dead]
abbrev e_conv_Do_0 : List (AX × List Slot) := [(AX.exit 0, [.dead, .dead, .dead, .dead, .dead, .dead, .box [.sl (.int .i64), .d .bool, .sl (.int .i64)], .dead, .dead, .dead, .box [.d (.sl (.int .i64)), .d .bool, .sl (.int .i64)], .dead, .dead, .dead, .dead, .dead, .dead, .dead, .dead, .dead, .dead, .dead, .dead, .dead, .dead, .dead, .dead, .dead, .dead, .dead, .dead, .dead, .dead, .dead, .dead, .dead, .dead, .dead, .dead, .dead, .dead, .dead, .dead, .dead, .dead, .dead, .dead, .dead, .dead, .dead, .dead, .dead, .dead, .dead, .dead])]
def g_conv_Do_0 (N : Nat) : Nat → List Int → (((List Int × Bool) × List Int) × Unit) → (((List Int × Bool) × List Int) × Unit) → (List Int × (Bool × (List Int × Unit))) → ((List Int × Bool) × Unit) → (List Int × (Bool × (List Int × Unit))) → Int → Int → Option ((List Int × (Bool × (List Int × Unit))) × ((List Int × (Bool × (List Int × Unit))) × Unit))
  | 0, _, _, _, _, _, _, _, _ => none
  | n + 1, args_2, a_3, k_4, t_6, d_8, out_10, t_27, t_28 =>
    cond (decide (t_28 < t_27))
      (
      Option.bind (F_conv_of N (a_3).1) fun y5 =>
      Option.bind (F_conv_of N (k_4).1) fun y6 =>
      cond (decide (1 < (List.length ((d_8).1).1)))
        (
        Option.bind (F_conv_At N args_2 (((a_3).1).1).1 (((k_4).1).1).1 (y5).1 (y6).1 t_28 (List.getD ((d_8).1).1 1 (0 : Int))) fun y7 =>
        cond (decide (((0 : Nat) + (List.length (((out_10).2).2).1)) = (List.length (((out_10).2).2).1)))
          (
          cond (decide ((((List.length (((out_10).2).2).1) + 1) * (8 + (1 : Nat))) ≤ Go.Eng.most))
            (
            cond (decide ((List.length (t_6).1) = (List.length (t_6).1)))
              (
              cond (decide ((List.length (((t_6).2).2).1) = (List.length (((t_6).2).2).1)))
                (
                cond (decide (((List.length (((out_10).2).2).1) + 1) = (List.length ((List.take (List.length (((out_10).2).2).1) (((out_10).2).2).1) ++ ((y7).1 :: ([] : List Int))))))
                  (
                  (g_conv_Do_0 N n args_2 a_3 k_4 t_6 d_8 ((out_10).1, (((out_10).2).1, (((List.take (List.length (((out_10).2).2).1) (((out_10).2).2).1) ++ ((y7).1 :: ([] : List Int))), ()))) t_27 (wi64 (t_28 + (1 : Int)))))
                  (
                  none))
                (
                none))
              (
              none))
            (
            none))
          (
          none))
        (
        none))
      (
      cond (decide ((List.length (t_6).1) = (List.length (t_6).1)))
        (
        cond (decide ((List.length (((t_6).2).2).1) = (List.length (((t_6).2).2).1)))
          (
          cond (decide ((List.length (((out_10).2).2).1) = (List.length (((out_10).2).2).1)))
            (
            some (t_6, (out_10, ())))
            (
            none))
          (
          none))
        (
        none))

def F_conv_Do (N : Nat) (a_0 : ((List Int × Bool) × List Int)) (k_1 : ((List Int × Bool) × List Int)) (args_2 : List Int) : Option ((List Int × (Bool × (List Int × Unit))) × (Er × Unit)) :=
  Option.bind (F_conv_result N a_0 k_1 args_2) fun y0 =>
  cond (Bool.not (Go.Eng.Er.isNil ((y0).2).1))
    (
    some ((([] : List Int), (false, (([] : List Int), ()))), (y0).2))
    (
    Option.bind (F_shape_Elems N ((y0).1).1) fun y1 =>
    Option.bind (g_conv_Do_0 N N args_2 (a_0, ()) (k_1, ()) (([] : List Int), (false, (([] : List Int), ()))) ((y0).1, ()) (((y0).1).1, (((y0).1).2, (([] : List Int), ()))) (y1).1 (0 : Int)) fun y2 =>
    cond (decide ((List.length (((((y2).2).1).2).2).1) = (List.length (((((y2).2).1).2).2).1)))
      (
      some (((y2).2).1, (Go.Eng.Er.nil, ())))
      (
      none))

abbrev c_conv_Do (N : Nat) : CallSpec := ⟨14, ps_conv_Do, rs_conv_Do, fun x => F_conv_Do N x.1 x.2.1 x.2.2.1⟩
abbrev l_conv_Do_0 (N : Nat) : LoopSpec := ⟨0, h_conv_Do_0, e_conv_Do_0, fun x => g_conv_Do_0 N N x.1 x.2.1 x.2.2.1 x.2.2.2.1 x.2.2.2.2.1 x.2.2.2.2.2.1 x.2.2.2.2.2.2.1 x.2.2.2.2.2.2.2.1⟩

theorem cs_conv_Do_ok (S : Nat → Addr) (N : Nat) : CallsOK Go.Proofs.Tryd.prog E S (cs_conv_Do N) :=
  .cons (F_shape_Elems_ok S N) (.cons (F_conv_result_ok S N) (.cons (F_conv_of_ok S N) (.cons (F_conv_At_ok S N) (.nil))))
noncomputable abbrev b_conv_Do_0 : Code := (loopsOf b_conv_Do).getD 0 .skip
theorem g_conv_Do_0_ok (S : Nat → Addr) (N : Nat) : ∀ n x y, (fun (x : Val (slotsTy h_conv_Do_0)) => g_conv_Do_0 N n x.1 x.2.1 x.2.2.1 x.2.2.2.1 x.2.2.2.2.1 x.2.2.2.2.2.1 x.2.2.2.2.2.2.1 x.2.2.2.2.2.2.2.1) x = some y → LoopCon Go.Proofs.Tryd.prog E S b_conv_Do_0 (encSlots h_conv_Do_0 x) (encEx e_conv_Do_0 y).1 (encEx e_conv_Do_0 y).2 :=
  loop_spec E_ok mixed (cs_conv_Do_ok S N) (all := loopsOf b_conv_Do) (ls := []) (.nil) (i := 0) (by kernel_rfl) (inner_of (by kernel_rfl)) (head := h_conv_Do_0) (ex := e_conv_Do_0) (fun n (x : Val (slotsTy h_conv_Do_0)) => g_conv_Do_0 N n x.1 x.2.1 x.2.2.1 x.2.2.2.1 x.2.2.2.2.1 x.2.2.2.2.2.1 x.2.2.2.2.2.2.1 x.2.2.2.2.2.2.2.1) (fun _ => rfl) (fun n x => by kernel_rfl)
theorem F_conv_Do_ok (S : Nat → Addr) (N : Nat) : ∀ x y, (c_conv_Do N).g x = some y → FCon Go.Proofs.Tryd.prog E S 14 ps_conv_Do rs_conv_Do x y := by
  intro x y h
  exact fun_spec E_ok mixed (cs_conv_Do_ok S N) (f := 14) (fi := ⟨b_conv_Do, 55, Go.Proofs.Tryd.f14.results.toList⟩) (by kernel_rfl) (ls := [l_conv_Do_0 N]) (.cons (by kernel_rfl) (g_conv_Do_0_ok S N N) (.nil)) (by kernel_rfl) (ps := ps_conv_Do) (rs := rs_conv_Do) (Eq.trans (b := F_conv_Do N x.1 x.2.1 x.2.2.1) (by kernel_rfl) h)

/-! lodge/lodgeref.SameInts -/

abbrev ps_lodgeref_SameInts : List Ty := [(.sl (.int .i64)), (.sl (.int .i64))]
abbrev rs_lodgeref_SameInts : List Slot := [.data .bool]
abbrev cs_lodgeref_SameInts (N : Nat) : List CallSpec := []
noncomputable abbrev b_lodgeref_SameInts : Code := (Go.Proofs.Tryd.f30.body).getD .skip

abbrev h_lodgeref_SameInts_0 : List Slot := [.data (.sl (.int .i64)), .data (.sl (.int .i64)), .dead, .dead, .dead, .data (.int .i64), .dead, .dead, .dead, .dead, .dead, .dead, .dead, .dead, .dead, .dead, .dead, .dead, .dead, .dead, .dead, .dead, .dead, .dead, .dead, .dead, .dead, .dead, .dead]
abbrev e_lodgeref_SameInts_0 : List (AX × List Slot) := [(AX.exit 0, [.dead, .dead, .dead, .dead, .dead, .dead, .dead, .dead, .dead, .dead, .dead, .dead, .dead, .dead, .dead, .dead, .dead, .dead, .dead, .dead, .dead, .dead, .dead, .dead, .dead, .dead, .dead, .dead, .dead]), (AX.ret, [.dead, .dead, .dead, .dead, .data .bool, .dead, .dead, .dead, .dead, .dead, .dead, .dead, .dead, .dead, .dead, .dead, .dead, .dead, .dead, .dead, .dead, .dead, .dead, .dead, .dead, .dead, .dead, .dead, .dead])]
def g_lodgeref_SameInts_0 (N : Nat) : Nat → List Int → List Int → Int → Option (Sum Unit (Bool × Unit))
  | 0, _, _, _ => none
  | n + 1, a_0, b_1, i_5 =>
    cond (decide (i_5 < (Nat.cast (List.length a_0) : Int)))
      (
      cond (decide ((0 : Int) ≤ i_5))
        (
        cond (decide ((Int.toNat i_5) < (List.length a_0)))
          (
          cond (decide ((0 : Int) ≤ i_5))
            (
            cond (decide ((Int.toNat i_5) < (List.length b_1)))
              (
              cond (Bool.not (decide ((List.getD a_0 (Int.toNat i_5) (0 : Int)) = (List.getD b_1 (Int.toNat i_5) (0 : Int)))))
                (
                some (Sum.inr (false, ())))
                (
                (g_lodgeref_SameInts_0 N n a_0 b_1 (wi64 (i_5 + (1 : Int))))))
              (
              none))
            (
            none))
          (
          none))
        (
        none))
      (
      some (Sum.inl ()))

def F_lodgeref_SameInts (N : Nat) (a_0 : List Int) (b_1 : List Int) : Option (Bool × Unit) :=
  cond (decide (@Ne Int (Nat.cast (List.length a_0) : Int) (Nat.cast (List.length b_1) : Int)))
    (
    some (false, ()))
    (
    Option.bind (g_lodgeref_SameInts_0 N N a_0 b_1 (0 : Int)) fun y0 =>
    Sum.elim (fun y1 =>
      some (true, ()))
      (fun y2 =>
      some y2) y0)

abbrev c_lodgeref_SameInts (N : Nat) : CallSpec := ⟨30, ps_lodgeref_SameInts, rs_lodgeref_SameInts, fun x => F_lodgeref_SameInts N x.1 x.2.1⟩
abbrev l_lodgeref_SameInts_0 (N : Nat) : LoopSpec := ⟨0, h_lodgeref_SameInts_0, e_lodgeref_SameInts_0, fun x => g_lodgeref_SameInts_0 N N x.1 x.2.1 x.2.2.1⟩

theorem cs_lodgeref_SameInts_ok (S : Nat → Addr) (N : Nat) : CallsOK Go.Proofs.Tryd.prog E S (cs_lodgeref_SameInts N) :=
  .nil
noncomputable abbrev b_lodgeref_SameInts_0 : Code := (loopsOf b_lodgeref_SameInts).getD 0 .skip
theorem g_lodgeref_SameInts_0_ok (S : Nat → Addr) (N : Nat) : ∀ n x y, (fun (x : Val (slotsTy h_lodgeref_SameInts_0)) => g_lodgeref_SameInts_0 N n x.1 x.2.1 x.2.2.1) x = some y → LoopCon Go.Proofs.Tryd.prog E S b_lodgeref_SameInts_0 (encSlots h_lodgeref_SameInts_0 x) (encEx e_lodgeref_SameInts_0 y).1 (encEx e_lodgeref_SameInts_0 y).2 :=
  loop_spec E_ok mixed (cs_lodgeref_SameInts_ok S N) (all := loopsOf b_lodgeref_SameInts) (ls := []) (.nil) (i := 0) (by kernel_rfl) (inner_of (by kernel_rfl)) (head := h_lodgeref_SameInts_0) (ex := e_lodgeref_SameInts_0) (fun n (x : Val (slotsTy h_lodgeref_SameInts_0)) => g_lodgeref_SameInts_0 N n x.1 x.2.1 x.2.2.1) (fun _ => rfl) (fun n x => by kernel_rfl)
theorem F_lodgeref_SameInts_ok (S : Nat → Addr) (N : Nat) : ∀ x y, (c_lodgeref_SameInts N).g x = some y → FCon Go.Proofs.Tryd.prog E S 30 ps_lodgeref_SameInts rs_lodgeref_SameInts x y := by
  intro x y h
  exact fun_spec E_ok mixed (cs_lodgeref_SameInts_ok S N) (f := 30) (fi := ⟨b_lodgeref_SameInts, 29, Go.Proofs.Tryd.f30.results.toList⟩) (by kernel_rfl) (ls := [l_lodgeref_SameInts_0 N]) (.cons (by kernel_rfl) (g_lodgeref_SameInts_0_ok S N N) (.nil)) (by kernel_rfl) (ps := ps_lodgeref_SameInts) (rs := rs_lodgeref_SameInts) (Eq.trans (b := F_lodgeref_SameInts N x.1 x.2.1) (by kernel_rfl) h)

/-! lodge/lodgelaw9.first -/

abbrev ps_lodgelaw9_first : List Ty := []
abbrev rs_lodgelaw9_first : List Slot := [.data .bool]
abbrev cs_lodgelaw9_first (N : Nat) : List CallSpec := [c_conv_Do N, c_lodgeref_SameInts N]
noncomputable abbrev b_lodgelaw9_first : Code := (Go.Proofs.Tryd.f9.body).getD .skip

def F_lodgelaw9_first (N : Nat)  : Option (Bool × Unit) :=
  Option.bind (F_conv_Do N ((((1 : Int) :: ((3 : Int) :: ((1 : Int) :: ([] : List Int)))), false), ((1 : Int) :: ((2 : Int) :: ((1 : Int) :: ([] : List Int))))) ((((1 : Int) :: ((1 : Int) :: ((1 : Int) :: ((1 : Int) :: ([] : List Int))))), false), ((3 : Int) :: ([] : List Int))) ((1 : Int) :: ((0 : Int) :: ((0 : Int) :: ([] : List Int))))) fun y0 =>
  cond (Go.Eng.Er.isNil ((y0).2).1)
    (
    cond (decide (((0 : Nat) + (List.length ((((y0).1).2).2).1)) ≤ (List.length ((((y0).1).2).2).1)))
      (
      Option.bind (F_lodgeref_SameInts N (List.take (List.length ((((y0).1).2).2).1) ((((y0).1).2).2).1) ((3 : Int) :: ((6 : Int) :: ((3 : Int) :: ([] : List Int))))) fun y1 =>
      some y1)
      (
      none))
    (
    some (false, ()))

abbrev c_lodgelaw9_first (N : Nat) : CallSpec := ⟨9, ps_lodgelaw9_first, rs_lodgelaw9_first, fun x => F_lodgelaw9_first N ⟩

theorem cs_lodgelaw9_first_ok (S : Nat → Addr) (N : Nat) : CallsOK Go.Proofs.Tryd.prog E S (cs_lodgelaw9_first N) :=
  .cons (F_conv_Do_ok S N) (.cons (F_lodgeref_SameInts_ok S N) (.nil))
theorem F_lodgelaw9_first_ok (S : Nat → Addr) (N : Nat) : ∀ x y, (c_lodgelaw9_first N).g x = some y → FCon Go.Proofs.Tryd.prog E S 9 ps_lodgelaw9_first rs_lodgelaw9_first x y := by
  intro x y h
  exact fun_spec E_ok mixed (cs_lodgelaw9_first_ok S N) (f := 9) (fi := ⟨b_lodgelaw9_first, 28, Go.Proofs.Tryd.f9.results.toList⟩) (by kernel_rfl) (ls := []) (.nil) (by kernel_rfl) (ps := ps_lodgelaw9_first) (rs := rs_lodgelaw9_first) (Eq.trans (b := F_lodgelaw9_first N ) (by kernel_rfl) h)

/-! lodge/lodgelaw9.ConvInside -/

abbrev ps_lodgelaw9_ConvInside : List Ty := [(.int .i64), (.int .i64), (.int .i64), (.int .i64), (.int .i64)]
abbrev rs_lodgelaw9_ConvInside : List Slot := [.data .bool]
abbrev cs_lodgelaw9_ConvInside (N : Nat) : List CallSpec := [c_conv_Inside N, c_lodgelaw9_first N]
noncomputable abbrev b_lodgelaw9_ConvInside : Code := (Go.Proofs.Tryd.f3.body).getD .skip

abbrev h_lodgelaw9_ConvInside_0 : List Slot := [.data (.int .i64), .data (.int .i64), .data (.int .i64), .data (.int .i64), .data (.int .i64), .dead, .dead, .dead, .dead, .dead, .dead, .dead, .data (.int .i64), .data (.int .i64), .sl (.int .i64), .data (.int .i64), .dead, .dead, .dead, .dead, .dead, .dead, .dead, .dead, .dead, .dead, .dead, .dead, .dead, .dead, .dead, .dead, .dead, .dead, .dead, .dead, .dead, .dead, .dead, .dead, .dead, .dead, .dead, .dead, .dead, .dead, .dead, .dead, .dead, .dead, .dead, .dead, .dead, .dead, .dead, .dead, .dead, .dead, .dead, .dead, .dead, .dead, .dead, .dead, .dead, .dead, .dead, .dead, .dead, .dead, .dead, .dead, .dead, .dead, .dead, .dead, .dead, .dead, .dead, .dead, .dead, .dead, .dead, .dead, .dead, .dead, .dead, .dead, .dead, .dead, .dead, .dead, .dead, .dead, .dead, .dead, .dead, .dead, .dead, .dead, .dead, .dead, .dead, .dead, .dead, .dead, .dead, .dead, .dead, .dead, .dead, .dead, .dead, .dead, .dead, .dead, .dead, .dead, .dead, .dead, .dead, .dead, .dead, .dead, .dead, .dead, .dead, .dead, .dead, .dead, .dead, .dead, .dead, .dead, .dead]
abbrev e_lodgelaw9_ConvInside_0 : List (AX × List Slot) := [(AX.exit 0, [.dead, .dead, .dead, .dead, .dead, .dead, .dead, .dead, .dead, .dead, .dead, .dead, .data (.int .i64), .data (.int .i64), .sl (.int .i64), .dead, .dead, .dead, .dead, .dead, .dead, .dead, .dead, .dead, .dead, .dead, .dead, .dead, .dead, .dead, .dead, .dead, .dead, .dead, .dead, .dead, .dead, .dead, .dead, .dead, .dead, .dead, .dead, .dead, .dead, .dead, .dead, .dead, .dead, .dead, .dead, .dead, .dead, .dead, .dead, .dead, .dead, .dead, .dead, .dead, .dead, .dead, .dead, .dead, .dead, .dead, .dead, .dead, .dead, .dead, .dead, .dead, .dead, .dead, .dead, .dead, .dead, .dead, .dead, .dead, .dead, .dead, .dead, .dead, .dead, .dead, .dead, .dead, .dead, .dead, .dead, .dead, .dead, .dead, .dead, .dead, .dead, .dead, .dead, .dead, .dead, .dead, .dead, .dead, .dead, .dead, .dead, .dead, .dead, .dead, .dead, .dead, .dead, .dead, .dead, .dead, .dead, .dead, .dead, .dead, .dead, .dead, .dead, .dead, .dead, .dead, .dead, .dead, .dead, .dead, .dead, .dead, .dead, .dead, .dead])]
def g_lodgelaw9_ConvInside_0 (N : Nat) : Nat → Int → Int → Int → Int → Int → Int → Int → List Int → Int → Option (Int × (Int × (List Int × Unit)))
  | 0, _, _, _, _, _, _, _, _, _ => none
  | n + 1, n_0, k_1, stride_2, pad_3, o_4, from_12, to_13, in_14, d_15 =>
    cond (decide (d_15 < k_1))
      (
      cond (decide ((0 : Int) ≤ (wi64 ((wi64 ((wi64 (o_4 * stride_2)) - pad_3)) + d_15))))
        (
        cond (decide ((wi64 ((wi64 ((wi64 (o_4 * stride_2)) - pad_3)) + d_15)) < n_0))
          (
          cond (decide (((0 : Nat) + (List.length in_14)) = (List.length in_14)))
            (
            cond (decide ((((List.length in_14) + 1) * (8 + (1 : Nat))) ≤ Go.Eng.most))
              (
              cond (decide (((List.length in_14) + 1) = (List.length ((List.take (List.length in_14) in_14) ++ (d_15 :: ([] : List Int))))))
                (
                (g_lodgelaw9_ConvInside_0 N n n_0 k_1 stride_2 pad_3 o_4 from_12 to_13 ((List.take (List.length in_14) in_14) ++ (d_15 :: ([] : List Int))) (wi64 (d_15 + (1 : Int)))))
                (
                none))
              (
              none))
            (
            none))
          (
          cond (decide ((List.length in_14) = (List.length in_14)))
            (
            (g_lodgelaw9_ConvInside_0 N n n_0 k_1 stride_2 pad_3 o_4 from_12 to_13 in_14 (wi64 (d_15 + (1 : Int)))))
            (
            none)))
        (
        cond (decide ((List.length in_14) = (List.length in_14)))
          (
          (g_lodgelaw9_ConvInside_0 N n n_0 k_1 stride_2 pad_3 o_4 from_12 to_13 in_14 (wi64 (d_15 + (1 : Int)))))
          (
          none)))
      (
      cond (decide ((List.length in_14) = (List.length in_14)))
        (
        some (from_12, (to_13, (in_14, ()))))
        (
        none))

def F_lodgelaw9_ConvInside (N : Nat) (n_0 : Int) (k_1 : Int) (stride_2 : Int) (pad_3 : Int) (o_4 : Int) : Option (Bool × Unit) :=
  Option.bind (F_lodgelaw9_first N) fun y0 =>
  cond (Bool.not (y0).1)
    (
    some (false, ()))
    (
    cond (decide ((40 : Int) < n_0))
      (
      some y0)
      (
      cond (decide ((40 : Int) < k_1))
        (
        some y0)
        (
        cond (decide ((40 : Int) < stride_2))
          (
          some y0)
          (
          cond (decide ((40 : Int) < pad_3))
            (
            some y0)
            (
            cond (decide ((40 : Int) < o_4))
              (
              some y0)
              (
              cond (Bool.not (y0).1)
                (
                some y0)
                (
                Option.bind (F_conv_Inside N n_0 k_1 stride_2 pad_3 o_4) fun y1 =>
                cond (decide (n_0 < (0 : Int)))
                  (
                  cond (decide ((0 : Int) ≤ (y1).1))
                    (
                    cond (decide ((y1).1 ≤ ((y1).2).1))
                      (
                      some ((decide (((y1).2).1 ≤ (Go.Eng.imax k_1 (0 : Int)))), ()))
                      (
                      some (false, ())))
                    (
                    some (false, ())))
                  (
                  cond (decide (k_1 < (1 : Int)))
                    (
                    cond (decide ((0 : Int) ≤ (y1).1))
                      (
                      cond (decide ((y1).1 ≤ ((y1).2).1))
                        (
                        some ((decide (((y1).2).1 ≤ (Go.Eng.imax k_1 (0 : Int)))), ()))
                        (
                        some (false, ())))
                      (
                      some (false, ())))
                    (
                    cond (decide (stride_2 < (1 : Int)))
                      (
                      cond (decide ((0 : Int) ≤ (y1).1))
                        (
                        cond (decide ((y1).1 ≤ ((y1).2).1))
                          (
                          some ((decide (((y1).2).1 ≤ (Go.Eng.imax k_1 (0 : Int)))), ()))
                          (
                          some (false, ())))
                        (
                        some (false, ())))
                      (
                      cond (decide (pad_3 < (0 : Int)))
                        (
                        cond (decide ((0 : Int) ≤ (y1).1))
                          (
                          cond (decide ((y1).1 ≤ ((y1).2).1))
                            (
                            some ((decide (((y1).2).1 ≤ (Go.Eng.imax k_1 (0 : Int)))), ()))
                            (
                            some (false, ())))
                          (
                          some (false, ())))
                        (
                        cond (decide (o_4 < (0 : Int)))
                          (
                          cond (decide ((0 : Int) ≤ (y1).1))
                            (
                            cond (decide ((y1).1 ≤ ((y1).2).1))
                              (
                              some ((decide (((y1).2).1 ≤ (Go.Eng.imax k_1 (0 : Int)))), ()))
                              (
                              some (false, ())))
                            (
                            some (false, ())))
                          (
                          cond (decide (n_0 < (1 : Int)))
                            (
                            cond (decide ((0 : Int) ≤ (y1).1))
                              (
                              cond (decide ((y1).1 ≤ ((y1).2).1))
                                (
                                some ((decide (((y1).2).1 ≤ (Go.Eng.imax k_1 (0 : Int)))), ()))
                                (
                                some (false, ())))
                              (
                              some (false, ())))
                            (
                            Option.bind (g_lodgelaw9_ConvInside_0 N N n_0 k_1 stride_2 pad_3 o_4 (y1).1 ((y1).2).1 ([] : List Int) (0 : Int)) fun y2 =>
                            cond (decide ((Nat.cast (List.length (((y2).2).2).1) : Int) = (0 : Int)))
                              (
                              cond (decide ((y2).1 = (0 : Int)))
                                (
                                some ((decide (((y2).2).1 = (0 : Int))), ()))
                                (
                                some (false, ())))
                              (
                              cond (decide (0 < (List.length (((y2).2).2).1)))
                                (
                                cond (decide (((0 : Nat) + 0) < (List.length (((y2).2).2).1)))
                                  (
                                  cond (decide ((y2).1 = (List.getD (((y2).2).2).1 ((0 : Nat) + 0) (0 : Int))))
                                    (
                                    cond (decide ((0 : Int) ≤ (wi64 ((Nat.cast (List.length (((y2).2).2).1) : Int) - (1 : Int)))))
                                      (
                                      cond (decide ((Int.toNat (wi64 ((Nat.cast (List.length (((y2).2).2).1) : Int) - (1 : Int)))) < (List.length (((y2).2).2).1)))
                                        (
                                        cond (decide (((0 : Nat) + (Int.toNat (wi64 ((Nat.cast (List.length (((y2).2).2).1) : Int) - (1 : Int))))) < (List.length (((y2).2).2).1)))
                                          (
                                          some ((decide (((y2).2).1 = (wi64 ((List.getD (((y2).2).2).1 ((0 : Nat) + (Int.toNat (wi64 ((Nat.cast (List.length (((y2).2).2).1) : Int) - (1 : Int))))) (0 : Int)) + (1 : Int))))), ()))
                                          (
                                          none))
                                        (
                                        none))
                                      (
                                      none))
                                    (
                                    some (false, ())))
                                  (
                                  none))
                                (
                                none)))))))))))))))

abbrev c_lodgelaw9_ConvInside (N : Nat) : CallSpec := ⟨3, ps_lodgelaw9_ConvInside, rs_lodgelaw9_ConvInside, fun x => F_lodgelaw9_ConvInside N x.1 x.2.1 x.2.2.1 x.2.2.2.1 x.2.2.2.2.1⟩
abbrev l_lodgelaw9_ConvInside_0 (N : Nat) : LoopSpec := ⟨0, h_lodgelaw9_ConvInside_0, e_lodgelaw9_ConvInside_0, fun x => g_lodgelaw9_ConvInside_0 N N x.1 x.2.1 x.2.2.1 x.2.2.2.1 x.2.2.2.2.1 x.2.2.2.2.2.1 x.2.2.2.2.2.2.1 x.2.2.2.2.2.2.2.1 x.2.2.2.2.2.2.2.2.1⟩

theorem cs_lodgelaw9_ConvInside_ok (S : Nat → Addr) (N : Nat) : CallsOK Go.Proofs.Tryd.prog E S (cs_lodgelaw9_ConvInside N) :=
  .cons (F_conv_Inside_ok S N) (.cons (F_lodgelaw9_first_ok S N) (.nil))
noncomputable abbrev b_lodgelaw9_ConvInside_0 : Code := (loopsOf b_lodgelaw9_ConvInside).getD 0 .skip
theorem g_lodgelaw9_ConvInside_0_ok (S : Nat → Addr) (N : Nat) : ∀ n x y, (fun (x : Val (slotsTy h_lodgelaw9_ConvInside_0)) => g_lodgelaw9_ConvInside_0 N n x.1 x.2.1 x.2.2.1 x.2.2.2.1 x.2.2.2.2.1 x.2.2.2.2.2.1 x.2.2.2.2.2.2.1 x.2.2.2.2.2.2.2.1 x.2.2.2.2.2.2.2.2.1) x = some y → LoopCon Go.Proofs.Tryd.prog E S b_lodgelaw9_ConvInside_0 (encSlots h_lodgelaw9_ConvInside_0 x) (encEx e_lodgelaw9_ConvInside_0 y).1 (encEx e_lodgelaw9_ConvInside_0 y).2 :=
  loop_spec E_ok mixed (cs_lodgelaw9_ConvInside_ok S N) (all := loopsOf b_lodgelaw9_ConvInside) (ls := []) (.nil) (i := 0) (by kernel_rfl) (inner_of (by kernel_rfl)) (head := h_lodgelaw9_ConvInside_0) (ex := e_lodgelaw9_ConvInside_0) (fun n (x : Val (slotsTy h_lodgelaw9_ConvInside_0)) => g_lodgelaw9_ConvInside_0 N n x.1 x.2.1 x.2.2.1 x.2.2.2.1 x.2.2.2.2.1 x.2.2.2.2.2.1 x.2.2.2.2.2.2.1 x.2.2.2.2.2.2.2.1 x.2.2.2.2.2.2.2.2.1) (fun _ => rfl) (fun n x => by kernel_rfl)
theorem F_lodgelaw9_ConvInside_ok (S : Nat → Addr) (N : Nat) : ∀ x y, (c_lodgelaw9_ConvInside N).g x = some y → FCon Go.Proofs.Tryd.prog E S 3 ps_lodgelaw9_ConvInside rs_lodgelaw9_ConvInside x y := by
  intro x y h
  exact fun_spec E_ok mixed (cs_lodgelaw9_ConvInside_ok S N) (f := 3) (fi := ⟨b_lodgelaw9_ConvInside, 135, Go.Proofs.Tryd.f3.results.toList⟩) (by kernel_rfl) (ls := [l_lodgelaw9_ConvInside_0 N]) (.cons (by kernel_rfl) (g_lodgelaw9_ConvInside_0_ok S N N) (.nil)) (by kernel_rfl) (ps := ps_lodgelaw9_ConvInside) (rs := rs_lodgelaw9_ConvInside) (Eq.trans (b := F_lodgelaw9_ConvInside N x.1 x.2.1 x.2.2.1 x.2.2.2.1 x.2.2.2.2.1) (by kernel_rfl) h)

/-! lodge/lodgeworld.Number -/

abbrev ps_lodgeworld_Number : List Ty := [(.int .i64), (.int .i64)]
abbrev rs_lodgeworld_Number : List Slot := [.data (.int .i64)]
abbrev cs_lodgeworld_Number (N : Nat) : List CallSpec := []
noncomputable abbrev b_lodgeworld_Number : Code := (Go.Proofs.Tryd.f11.body).getD .skip

def F_lodgeworld_Number (N : Nat) (n_0 : Int) (below_1 : Int) : Option (Int × Unit) :=
  cond (decide (@Ne Int below_1 (0 : Int)))
    (
    cond (decide (@Ne Int below_1 (0 : Int)))
      (
      some ((Int.tmod (wi64 ((Int.tmod n_0 below_1) + below_1)) below_1), ()))
      (
      none))
    (
    none)

abbrev c_lodgeworld_Number (N : Nat) : CallSpec := ⟨11, ps_lodgeworld_Number, rs_lodgeworld_Number, fun x => F_lodgeworld_Number N x.1 x.2.1⟩

theorem cs_lodgeworld_Number_ok (S : Nat → Addr) (N : Nat) : CallsOK Go.Proofs.Tryd.prog E S (cs_lodgeworld_Number N) :=
  .nil
theorem F_lodgeworld_Number_ok (S : Nat → Addr) (N : Nat) : ∀ x y, (c_lodgeworld_Number N).g x = some y → FCon Go.Proofs.Tryd.prog E S 11 ps_lodgeworld_Number rs_lodgeworld_Number x y := by
  intro x y h
  exact fun_spec E_ok mixed (cs_lodgeworld_Number_ok S N) (f := 11) (fi := ⟨b_lodgeworld_Number, 12, Go.Proofs.Tryd.f11.results.toList⟩) (by kernel_rfl) (ls := []) (.nil) (by kernel_rfl) (ps := ps_lodgeworld_Number) (rs := rs_lodgeworld_Number) (Eq.trans (b := F_lodgeworld_Number N x.1 x.2.1) (by kernel_rfl) h)

/-! lodge/lodgeref3.ValidDesc -/

abbrev ps_lodgeref3_ValidDesc : List Ty := [(.st (.pair (.sl (.int .i64)) .bool))]
abbrev rs_lodgeref3_ValidDesc : List Slot := [.data (.int .i64)]
abbrev cs_lodgeref3_ValidDesc (N : Nat) : List CallSpec := []
noncomputable abbrev b_lodgeref3_ValidDesc : Code := (Go.Proofs.Tryd.f42.body).getD .skip

abbrev h_lodgeref3_ValidDesc_0 : List Slot := [.dead, .box [.d (.st (.pair (.sl (.int .i64)) .bool))], .dead, .data (.int .i64), .data (.int .i64), .dead, .dead, .dead, .dead, .dead, .dead, .dead, .dead, .dead, .dead, .dead, .dead, .dead, .dead, .dead, .dead, .dead, .dead, .dead, .dead, .dead, .dead, .dead, .dead, .dead, .dead, .dead, .dead, .dead, .dead, .dead, .dead, .dead, .dead]
abbrev e_lodgeref3_ValidDesc_0 : List (AX × List Slot) := [(AX.exit 0, [.dead, .dead, .dead, .data (.int .i64), .dead, .dead, .dead, .dead, .dead, .dead, .dead, .dead, .dead, .dead, .dead, .dead, .dead, .dead, .dead, .dead, .dead, .dead, .dead, .dead, .dead, .dead, .dead, .dead, .dead, .dead, .dead, .dead, .dead, .dead, .dead, .dead, .dead, .dead, .dead]), (AX.ret, [.dead, .dead, .data (.int .i64), .dead, .dead, .dead, .dead, .dead, .dead, .dead, .dead, .dead, .dead, .dead, .dead, .dead, .dead, .dead, .dead, .dead, .dead, .dead, .dead, .dead, .dead, .dead, .dead, .dead, .dead, .dead, .dead, .dead, .dead, .dead, .dead, .dead, .dead, .dead, .dead])]
def g_lodgeref3_ValidDesc_0 (N : Nat) : Nat → ((List Int × Bool) × Unit) → Int → Int → Option (Sum (Int × Unit) (Int × Unit))
  | 0, _, _, _ => none
  | n + 1, d_1, n_3, i_4 =>
    cond (decide (i_4 < (Nat.cast (List.length ((d_1).1).1) : Int)))
      (
      cond (decide ((0 : Int) ≤ i_4))
        (
        cond (decide ((Int.toNat i_4) < (List.length ((d_1).1).1)))
          (
          cond (decide ((List.getD ((d_1).1).1 (Int.toNat i_4) (0 : Int)) < (1 : Int)))
            (
            some (Sum.inr ((102 : Int), ())))
            (
            cond (decide ((0 : Int) ≤ i_4))
              (
              cond (decide ((Int.toNat i_4) < (List.length ((d_1).1).1)))
                (
                cond (decide ((256 : Int) < (List.getD ((d_1).1).1 (Int.toNat i_4) (0 : Int))))
                  (
                  some (Sum.inr ((102 : Int), ())))
                  (
                  cond (decide ((0 : Int) ≤ i_4))
                    (
                    cond (decide ((Int.toNat i_4) < (List.length ((d_1).1).1)))
                      (
                      (g_lodgeref3_ValidDesc_0 N n d_1 (wi64 (n_3 * (List.getD ((d_1).1).1 (Int.toNat i_4) (0 : Int)))) (wi64 (i_4 + (1 : Int)))))
                      (
                      none))
                    (
                    none)))
                (
                none))
              (
              none)))
          (
          none))
        (
        none))
      (
      some (Sum.inl (n_3, ())))

def F_lodgeref3_ValidDesc (N : Nat) (d_0 : (List Int × Bool)) : Option (Int × Unit) :=
  cond (decide ((4 : Int) < (Nat.cast (List.length (d_0).1) : Int)))
    (
    some ((104 : Int), ()))
    (
    Option.bind (g_lodgeref3_ValidDesc_0 N N (d_0, ()) (1 : Int) (0 : Int)) fun y0 =>
    Sum.elim (fun y1 =>
      cond (decide ((16384 : Int) < (y1).1))
        (
        some ((104 : Int), ()))
        (
        some ((0 : Int), ())))
      (fun y2 =>
      some y2) y0)

abbrev c_lodgeref3_ValidDesc (N : Nat) : CallSpec := ⟨42, ps_lodgeref3_ValidDesc, rs_lodgeref3_ValidDesc, fun x => F_lodgeref3_ValidDesc N x.1⟩
abbrev l_lodgeref3_ValidDesc_0 (N : Nat) : LoopSpec := ⟨0, h_lodgeref3_ValidDesc_0, e_lodgeref3_ValidDesc_0, fun x => g_lodgeref3_ValidDesc_0 N N x.1 x.2.1 x.2.2.1⟩

theorem cs_lodgeref3_ValidDesc_ok (S : Nat → Addr) (N : Nat) : CallsOK Go.Proofs.Tryd.prog E S (cs_lodgeref3_ValidDesc N) :=
  .nil
noncomputable abbrev b_lodgeref3_ValidDesc_0 : Code := (loopsOf b_lodgeref3_ValidDesc).getD 0 .skip
theorem g_lodgeref3_ValidDesc_0_ok (S : Nat → Addr) (N : Nat) : ∀ n x y, (fun (x : Val (slotsTy h_lodgeref3_ValidDesc_0)) => g_lodgeref3_ValidDesc_0 N n x.1 x.2.1 x.2.2.1) x = some y → LoopCon Go.Proofs.Tryd.prog E S b_lodgeref3_ValidDesc_0 (encSlots h_lodgeref3_ValidDesc_0 x) (encEx e_lodgeref3_ValidDesc_0 y).1 (encEx e_lodgeref3_ValidDesc_0 y).2 :=
  loop_spec E_ok mixed (cs_lodgeref3_ValidDesc_ok S N) (all := loopsOf b_lodgeref3_ValidDesc) (ls := []) (.nil) (i := 0) (by kernel_rfl) (inner_of (by kernel_rfl)) (head := h_lodgeref3_ValidDesc_0) (ex := e_lodgeref3_ValidDesc_0) (fun n (x : Val (slotsTy h_lodgeref3_ValidDesc_0)) => g_lodgeref3_ValidDesc_0 N n x.1 x.2.1 x.2.2.1) (fun _ => rfl) (fun n x => by kernel_rfl)
theorem F_lodgeref3_ValidDesc_ok (S : Nat → Addr) (N : Nat) : ∀ x y, (c_lodgeref3_ValidDesc N).g x = some y → FCon Go.Proofs.Tryd.prog E S 42 ps_lodgeref3_ValidDesc rs_lodgeref3_ValidDesc x y := by
  intro x y h
  exact fun_spec E_ok mixed (cs_lodgeref3_ValidDesc_ok S N) (f := 42) (fi := ⟨b_lodgeref3_ValidDesc, 39, Go.Proofs.Tryd.f42.results.toList⟩) (by kernel_rfl) (ls := [l_lodgeref3_ValidDesc_0 N]) (.cons (by kernel_rfl) (g_lodgeref3_ValidDesc_0_ok S N N) (.nil)) (by kernel_rfl) (ps := ps_lodgeref3_ValidDesc) (rs := rs_lodgeref3_ValidDesc) (Eq.trans (b := F_lodgeref3_ValidDesc N x.1) (by kernel_rfl) h)

/-! lodge/lodgeref3.Elems -/

abbrev ps_lodgeref3_Elems : List Ty := [(.sl (.int .i64))]
abbrev rs_lodgeref3_Elems : List Slot := [.data (.int .i64)]
abbrev cs_lodgeref3_Elems (N : Nat) : List CallSpec := [c_lodgeref3_ValidDesc N]
noncomputable abbrev b_lodgeref3_Elems : Code := (Go.Proofs.Tryd.f31.body).getD .skip

abbrev h_lodgeref3_Elems_0 : List Slot := [.data (.sl (.int .i64)), .dead, .dead, .data (.int .i64), .data (.int .i64), .dead, .dead, .dead, .dead, .dead, .dead, .dead, .dead, .dead, .dead, .dead, .dead, .dead, .dead, .dead, .dead, .dead]
abbrev e_lodgeref3_Elems_0 : List (AX × List Slot) := [(AX.exit 0, [.dead, .dead, .dead, .data (.int .i64), .dead, .dead, .dead, .dead, .dead, .dead, .dead, .dead, .dead, .dead, .dead, .dead, .dead, .dead, .dead, .dead, .dead, .dead])]
def g_lodgeref3_Elems_0 (N : Nat) : Nat → List Int → Int → Int → Option (Int × Unit)
  | 0, _, _, _ => none
  | n + 1, shape_0, n_3, i_4 =>
    cond (decide (i_4 < (Nat.cast (List.length shape_0) : Int)))
      (
      cond (decide ((0 : Int) ≤ i_4))
        (
        cond (decide ((Int.toNat i_4) < (List.length shape_0)))
          (
          (g_lodgeref3_Elems_0 N n shape_0 (wi64 (n_3 * (List.getD shape_0 (Int.toNat i_4) (0 : Int)))) (wi64 (i_4 + (1 : Int)))))
          (
          none))
        (
        none))
      (
      some (n_3, ()))

def F_lodgeref3_Elems (N : Nat) (shape_0 : List Int) : Option (Int × Unit) :=
  Option.bind (F_lodgeref3_ValidDesc N (shape_0, false)) fun y0 =>
  cond (decide (@Ne Int (y0).1 (0 : Int)))
    (
    some ((0 : Int), ()))
    (
    Option.bind (g_lodgeref3_Elems_0 N N shape_0 (1 : Int) (0 : Int)) fun y1 =>
    some y1)

abbrev c_lodgeref3_Elems (N : Nat) : CallSpec := ⟨31, ps_lodgeref3_Elems, rs_lodgeref3_Elems, fun x => F_lodgeref3_Elems N x.1⟩
abbrev l_lodgeref3_Elems_0 (N : Nat) : LoopSpec := ⟨0, h_lodgeref3_Elems_0, e_lodgeref3_Elems_0, fun x => g_lodgeref3_Elems_0 N N x.1 x.2.1 x.2.2.1⟩

theorem cs_lodgeref3_Elems_ok (S : Nat → Addr) (N : Nat) : CallsOK Go.Proofs.Tryd.prog E S (cs_lodgeref3_Elems N) :=
  .cons (F_lodgeref3_ValidDesc_ok S N) (.nil)
noncomputable abbrev b_lodgeref3_Elems_0 : Code := (loopsOf b_lodgeref3_Elems).getD 0 .skip
theorem g_lodgeref3_Elems_0_ok (S : Nat → Addr) (N : Nat) : ∀ n x y, (fun (x : Val (slotsTy h_lodgeref3_Elems_0)) => g_lodgeref3_Elems_0 N n x.1 x.2.1 x.2.2.1) x = some y → LoopCon Go.Proofs.Tryd.prog E S b_lodgeref3_Elems_0 (encSlots h_lodgeref3_Elems_0 x) (encEx e_lodgeref3_Elems_0 y).1 (encEx e_lodgeref3_Elems_0 y).2 :=
  loop_spec E_ok mixed (cs_lodgeref3_Elems_ok S N) (all := loopsOf b_lodgeref3_Elems) (ls := []) (.nil) (i := 0) (by kernel_rfl) (inner_of (by kernel_rfl)) (head := h_lodgeref3_Elems_0) (ex := e_lodgeref3_Elems_0) (fun n (x : Val (slotsTy h_lodgeref3_Elems_0)) => g_lodgeref3_Elems_0 N n x.1 x.2.1 x.2.2.1) (fun _ => rfl) (fun n x => by kernel_rfl)
theorem F_lodgeref3_Elems_ok (S : Nat → Addr) (N : Nat) : ∀ x y, (c_lodgeref3_Elems N).g x = some y → FCon Go.Proofs.Tryd.prog E S 31 ps_lodgeref3_Elems rs_lodgeref3_Elems x y := by
  intro x y h
  exact fun_spec E_ok mixed (cs_lodgeref3_Elems_ok S N) (f := 31) (fi := ⟨b_lodgeref3_Elems, 22, Go.Proofs.Tryd.f31.results.toList⟩) (by kernel_rfl) (ls := [l_lodgeref3_Elems_0 N]) (.cons (by kernel_rfl) (g_lodgeref3_Elems_0_ok S N N) (.nil)) (by kernel_rfl) (ps := ps_lodgeref3_Elems) (rs := rs_lodgeref3_Elems) (Eq.trans (b := F_lodgeref3_Elems N x.1) (by kernel_rfl) h)

/-! lodge/lodgelaw9.tensor -/

abbrev ps_lodgelaw9_tensor : List Ty := [(.sl (.int .i64)), (.sl (.int .i64))]
abbrev rs_lodgelaw9_tensor : List Slot := [.ag [.d (.sl (.int .i64)), .d .bool, .sl (.int .i64)]]
abbrev cs_lodgelaw9_tensor (N : Nat) : List CallSpec := [c_lodgeworld_Number N, c_lodgeref3_Elems N]
noncomputable abbrev b_lodgelaw9_tensor : Code := (Go.Proofs.Tryd.f12.body).getD .skip

abbrev h_lodgelaw9_tensor_0 : List Slot := [.dead, .data (.sl (.int .i64)), .dead, .dead, .box [.sl (.int .i64), .d .bool, .sl (.int .i64)], .box [.d (.sl (.int .i64)), .d .bool, .sl (.int .i64)], .data (.int .i64), .dead, .dead, .dead, .dead, .dead, .dead, .dead, .dead, .dead, .dead, .dead, .dead, .dead, .dead, .dead, .dead, .dead, .dead, .dead, .dead, .dead, .dead, .dead, .dead, .dead, .dead, .dead, .dead, .dead, .dead, .dead, .dead, .dead, .dead, .dead]
abbrev e_lodgelaw9_tensor_0 : List (AX × List Slot) := [(AX.exit 0, [.dead, .dead, .dead, .dead, .box [.sl (.int .i64), .d .bool, .sl (.int .i64)], .box [.d (.sl (.int .i64)), .d .bool, .sl (.int .i64)], .dead, .dead, .dead, .dead, .dead, .dead, .dead, .dead, .dead, .dead, .dead, .dead, .dead, .dead, .dead, .dead, .dead, .dead, .dead, .dead, .dead, .dead, .dead, .dead, .dead, .dead, .dead, .dead, .dead, .dead, .dead, .dead, .dead, .dead, .dead, .dead])]
def g_lodgelaw9_tensor_0 (N : Nat) : Nat → List Int → (List Int × (Bool × (List Int × Unit))) → (List Int × (Bool × (List Int × Unit))) → Int → Option ((List Int × (Bool × (List Int × Unit))) × ((List Int × (Bool × (List Int × Unit))) × Unit))
  | 0, _, _, _, _ => none
  | n + 1, l_1, t_4, t_5, i_6 =>
    cond (decide (i_6 < (Nat.cast (List.length (((t_5).2).2).1) : Int)))
      (
      cond (decide ((0 : Int) < (Nat.cast (List.length l_1) : Int)))
        (
        cond (decide (@Ne Int (Nat.cast (List.length l_1) : Int) (0 : Int)))
          (
          cond (decide ((0 : Int) ≤ (Int.tmod i_6 (Nat.cast (List.length l_1) : Int))))
            (
            cond (decide ((Int.toNat (Int.tmod i_6 (Nat.cast (List.length l_1) : Int))) < (List.length l_1)))
              (
              Option.bind (F_lodgeworld_Number N (wi64 ((List.getD l_1 (Int.toNat (Int.tmod i_6 (Nat.cast (List.length l_1) : Int))) (0 : Int)) + (wi64 ((7 : Int) * i_6)))) (256 : Int)) fun y2 =>
              cond (decide ((0 : Int) ≤ i_6))
                (
                cond (decide ((Int.toNat i_6) < (List.length (((t_5).2).2).1)))
                  (
                  cond (decide (((0 : Nat) + (Int.toNat i_6)) < (List.length (((t_5).2).2).1)))
                    (
                    cond (decide ((List.length (t_4).1) = (List.length (t_4).1)))
                      (
                      cond (decide ((List.length (((t_4).2).2).1) = (List.length (((t_4).2).2).1)))
                        (
                        cond (decide ((List.length (((t_5).2).2).1) = (List.length (List.set (((t_5).2).2).1 ((0 : Nat) + (Int.toNat i_6)) (wi64 ((y2).1 - (128 : Int)))))))
                          (
                          (g_lodgelaw9_tensor_0 N n l_1 t_4 ((t_5).1, (((t_5).2).1, ((List.set (((t_5).2).2).1 ((0 : Nat) + (Int.toNat i_6)) (wi64 ((y2).1 - (128 : Int)))), ()))) (wi64 (i_6 + (1 : Int)))))
                          (
                          none))
                        (
                        none))
                      (
                      none))
                    (
                    none))
                  (
                  none))
                (
                none))
              (
              none))
            (
            none))
          (
          none))
        (
        cond (decide ((List.length (t_4).1) = (List.length (t_4).1)))
          (
          cond (decide ((List.length (((t_4).2).2).1) = (List.length (((t_4).2).2).1)))
            (
            cond (decide ((List.length (((t_5).2).2).1) = (List.length (((t_5).2).2).1)))
              (
              some (t_4, (t_5, ())))
              (
              none))
            (
            none))
          (
          none)))
      (
      cond (decide ((List.length (t_4).1) = (List.length (t_4).1)))
        (
        cond (decide ((List.length (((t_4).2).2).1) = (List.length (((t_4).2).2).1)))
          (
          cond (decide ((List.length (((t_5).2).2).1) = (List.length (((t_5).2).2).1)))
            (
            some (t_4, (t_5, ())))
            (
            none))
          (
          none))
        (
        none))

def F_lodgelaw9_tensor (N : Nat) (s_0 : List Int) (l_1 : List Int) : Option ((List Int × (Bool × (List Int × Unit))) × Unit) :=
  Option.bind (F_lodgeref3_Elems N s_0) fun y0 =>
  cond (decide ((0 : Int) ≤ (y0).1))
    (
    cond (decide ((y0).1 ≤ (y0).1))
      (
      cond (decide (((y0).1 * ((Nat.cast 8 : Int) + (1 : Int))) ≤ (Nat.cast Go.Eng.most : Int)))
        (
        cond (decide ((Int.toNat (y0).1) = (List.length (List.replicate (Int.toNat (y0).1) (0 : Int)))))
          (
          Option.bind (g_lodgelaw9_tensor_0 N N l_1 (([] : List Int), (false, (([] : List Int), ()))) (s_0, (false, ((List.replicate (Int.toNat (y0).1) (0 : Int)), ()))) (0 : Int)) fun y1 =>
          cond (decide ((List.length (((((y1).2).1).2).2).1) = (List.length (((((y1).2).1).2).2).1)))
            (
            some (y1).2)
            (
            none))
          (
          none))
        (
        none))
      (
      none))
    (
    none)

abbrev c_lodgelaw9_tensor (N : Nat) : CallSpec := ⟨12, ps_lodgelaw9_tensor, rs_lodgelaw9_tensor, fun x => F_lodgelaw9_tensor N x.1 x.2.1⟩
abbrev l_lodgelaw9_tensor_0 (N : Nat) : LoopSpec := ⟨0, h_lodgelaw9_tensor_0, e_lodgelaw9_tensor_0, fun x => g_lodgelaw9_tensor_0 N N x.1 x.2.1 x.2.2.1 x.2.2.2.1⟩

theorem cs_lodgelaw9_tensor_ok (S : Nat → Addr) (N : Nat) : CallsOK Go.Proofs.Tryd.prog E S (cs_lodgelaw9_tensor N) :=
  .cons (F_lodgeworld_Number_ok S N) (.cons (F_lodgeref3_Elems_ok S N) (.nil))
noncomputable abbrev b_lodgelaw9_tensor_0 : Code := (loopsOf b_lodgelaw9_tensor).getD 0 .skip
theorem g_lodgelaw9_tensor_0_ok (S : Nat → Addr) (N : Nat) : ∀ n x y, (fun (x : Val (slotsTy h_lodgelaw9_tensor_0)) => g_lodgelaw9_tensor_0 N n x.1 x.2.1 x.2.2.1 x.2.2.2.1) x = some y → LoopCon Go.Proofs.Tryd.prog E S b_lodgelaw9_tensor_0 (encSlots h_lodgelaw9_tensor_0 x) (encEx e_lodgelaw9_tensor_0 y).1 (encEx e_lodgelaw9_tensor_0 y).2 :=
  loop_spec E_ok mixed (cs_lodgelaw9_tensor_ok S N) (all := loopsOf b_lodgelaw9_tensor) (ls := []) (.nil) (i := 0) (by kernel_rfl) (inner_of (by kernel_rfl)) (head := h_lodgelaw9_tensor_0) (ex := e_lodgelaw9_tensor_0) (fun n (x : Val (slotsTy h_lodgelaw9_tensor_0)) => g_lodgelaw9_tensor_0 N n x.1 x.2.1 x.2.2.1 x.2.2.2.1) (fun _ => rfl) (fun n x => by kernel_rfl)
theorem F_lodgelaw9_tensor_ok (S : Nat → Addr) (N : Nat) : ∀ x y, (c_lodgelaw9_tensor N).g x = some y → FCon Go.Proofs.Tryd.prog E S 12 ps_lodgelaw9_tensor rs_lodgelaw9_tensor x y := by
  intro x y h
  exact fun_spec E_ok mixed (cs_lodgelaw9_tensor_ok S N) (f := 12) (fi := ⟨b_lodgelaw9_tensor, 42, Go.Proofs.Tryd.f12.results.toList⟩) (by kernel_rfl) (ls := [l_lodgelaw9_tensor_0 N]) (.cons (by kernel_rfl) (g_lodgelaw9_tensor_0_ok S N N) (.nil)) (by kernel_rfl) (ps := ps_lodgelaw9_tensor) (rs := rs_lodgelaw9_tensor) (Eq.trans (b := F_lodgelaw9_tensor N x.1 x.2.1) (by kernel_rfl) h)

/-! lodge/lodgeref.Ints -/

abbrev ps_lodgeref_Ints : List Ty := [(.sl (.int .i64))]
abbrev rs_lodgeref_Ints : List Slot := [.sl (.int .i64)]
abbrev cs_lodgeref_Ints (N : Nat) : List CallSpec := []
noncomputable abbrev b_lodgeref_Ints : Code := (Go.Proofs.Tryd.f13.body).getD .skip

abbrev h_lodgeref_Ints_0 : List Slot := [.data (.sl (.int .i64)), .dead, .dead, .sl (.int .i64), .data (.int .i64), .dead, .dead, .dead, .dead, .dead, .dead, .dead, .dead, .dead, .dead, .dead, .dead, .dead, .dead, .dead, .dead, .dead]
abbrev e_lodgeref_Ints_0 : List (AX × List Slot) := [(AX.exit 0, [.dead, .dead, .dead, .sl (.int .i64), .dead, .dead, .dead, .dead, .dead, .dead, .dead, .dead, .dead, .dead, .dead, .dead, .dead, .dead, .dead, .dead, .dead, .dead])]
def g_lodgeref_Ints_0 (N : Nat) : Nat → List Int → List Int → Int → Option (List Int × Unit)
  | 0, _, _, _ => none
  | n + 1, l_0, out_3, i_4 =>
    cond (decide (i_4 < (Nat.cast (List.length l_0) : Int)))
      (
      cond (decide ((0 : Int) ≤ i_4))
        (
        cond (decide ((Int.toNat i_4) < (List.length l_0)))
          (
          cond (decide (((0 : Nat) + (List.length out_3)) = (List.length out_3)))
            (
            cond (decide ((((List.length out_3) + 1) * (8 + (1 : Nat))) ≤ Go.Eng.most))
              (
              cond (decide (((List.length out_3) + 1) = (List.length ((List.take (List.length out_3) out_3) ++ ((List.getD l_0 (Int.toNat i_4) (0 : Int)) :: ([] : List Int))))))
                (
                (g_lodgeref_Ints_0 N n l_0 ((List.take (List.length out_3) out_3) ++ ((List.getD l_0 (Int.toNat i_4) (0 : Int)) :: ([] : List Int))) (wi64 (i_4 + (1 : Int)))))
                (
                none))
              (
              none))
            (
            none))
          (
          none))
        (
        none))
      (
      cond (decide ((List.length out_3) = (List.length out_3)))
        (
        some (out_3, ()))
        (
        none))

def F_lodgeref_Ints (N : Nat) (l_0 : List Int) : Option (List Int × Unit) :=
  cond (decide (((Nat.cast (List.length l_0) : Int) * ((Nat.cast 8 : Int) + (1 : Int))) ≤ (Nat.cast Go.Eng.most : Int)))
    (
    Option.bind (g_lodgeref_Ints_0 N N l_0 (List.replicate 0 (0 : Int)) (0 : Int)) fun y0 =>
    cond (decide ((List.length (y0).1) = (List.length (y0).1)))
      (
      some y0)
      (
      none))
    (
    none)

abbrev c_lodgeref_Ints (N : Nat) : CallSpec := ⟨13, ps_lodgeref_Ints, rs_lodgeref_Ints, fun x => F_lodgeref_Ints N x.1⟩
abbrev l_lodgeref_Ints_0 (N : Nat) : LoopSpec := ⟨0, h_lodgeref_Ints_0, e_lodgeref_Ints_0, fun x => g_lodgeref_Ints_0 N N x.1 x.2.1 x.2.2.1⟩

theorem cs_lodgeref_Ints_ok (S : Nat → Addr) (N : Nat) : CallsOK Go.Proofs.Tryd.prog E S (cs_lodgeref_Ints N) :=
  .nil
noncomputable abbrev b_lodgeref_Ints_0 : Code := (loopsOf b_lodgeref_Ints).getD 0 .skip
theorem g_lodgeref_Ints_0_ok (S : Nat → Addr) (N : Nat) : ∀ n x y, (fun (x : Val (slotsTy h_lodgeref_Ints_0)) => g_lodgeref_Ints_0 N n x.1 x.2.1 x.2.2.1) x = some y → LoopCon Go.Proofs.Tryd.prog E S b_lodgeref_Ints_0 (encSlots h_lodgeref_Ints_0 x) (encEx e_lodgeref_Ints_0 y).1 (encEx e_lodgeref_Ints_0 y).2 :=
  loop_spec E_ok mixed (cs_lodgeref_Ints_ok S N) (all := loopsOf b_lodgeref_Ints) (ls := []) (.nil) (i := 0) (by kernel_rfl) (inner_of (by kernel_rfl)) (head := h_lodgeref_Ints_0) (ex := e_lodgeref_Ints_0) (fun n (x : Val (slotsTy h_lodgeref_Ints_0)) => g_lodgeref_Ints_0 N n x.1 x.2.1 x.2.2.1) (fun _ => rfl) (fun n x => by kernel_rfl)
theorem F_lodgeref_Ints_ok (S : Nat → Addr) (N : Nat) : ∀ x y, (c_lodgeref_Ints N).g x = some y → FCon Go.Proofs.Tryd.prog E S 13 ps_lodgeref_Ints rs_lodgeref_Ints x y := by
  intro x y h
  exact fun_spec E_ok mixed (cs_lodgeref_Ints_ok S N) (f := 13) (fi := ⟨b_lodgeref_Ints, 22, Go.Proofs.Tryd.f13.results.toList⟩) (by kernel_rfl) (ls := [l_lodgeref_Ints_0 N]) (.cons (by kernel_rfl) (g_lodgeref_Ints_0_ok S N N) (.nil)) (by kernel_rfl) (ps := ps_lodgeref_Ints) (rs := rs_lodgeref_Ints) (Eq.trans (b := F_lodgeref_Ints N x.1) (by kernel_rfl) h)

/-! lodge/lodgelaw9.ConvOnly -/

abbrev ps_lodgelaw9_ConvOnly : List Ty := [(.int .i64), (.int .i64), (.int .i64), (.int .i64), (.int .i64), (.int .i64), (.sl (.int .i64))]
abbrev rs_lodgelaw9_ConvOnly : List Slot := [.data .bool]
abbrev cs_lodgelaw9_ConvOnly (N : Nat) : List CallSpec := [c_conv_Do N, c_lodgelaw9_first N, c_lodgeworld_Number N, c_lodgelaw9_tensor N, c_lodgeref_Ints N]
noncomputable abbrev b_lodgelaw9_ConvOnly : Code := (Go.Proofs.Tryd.f4.body).getD .skip

abbrev h_lodgelaw9_ConvOnly_0 : List Slot := [.dead, .data (.int .i64), .data (.int .i64), .data (.int .i64), .data (.int .i64), .data (.int .i64), .dead, .dead, .dead, .dead, .dead, .dead, .dead, .dead, .dead, .dead, .dead, .box [.d (.st (.pair (.st (.pair (.sl (.int .i64)) .bool)) (.sl (.int .i64))))], .box [.d (.sl (.int .i64)), .d .bool, .sl (.int .i64)], .dead, .data (.int .i64), .dead, .dead, .dead, .dead, .dead, .dead, .dead, .dead, .dead, .dead, .dead, .dead, .dead, .dead, .dead, .dead, .dead, .dead, .dead, .dead, .dead, .dead, .dead, .dead, .dead, .dead, .dead, .dead, .dead, .dead, .dead, .dead, .dead, .dead, .dead, .dead, .dead, .dead, .dead, .dead, .dead, .dead, .dead, .dead, .dead, .dead, .dead, .dead, .dead, .dead, .dead, .dead, .dead, .dead, .dead, .dead, .dead, .dead, .dead, .dead, .dead, .dead, .dead, .dead, .dead, .dead, .dead, .dead, .dead, .dead, .dead, .dead, .dead, .dead, .dead, .dead, .dead, .dead, .dead, .dead, .dead, .dead, .dead, .dead, .dead, .dead, .dead, .dead, .dead, .dead, .dead, .dead, .dead, .dead, .dead, .dead, .dead, .dead, .dead, .dead, .dead, .dead, .dead, .dead, .dead, .dead, .dead, .dead, .dead, .dead, .dead, .dead, .dead, .dead, .dead, .dead, .dead, .dead, .dead, .dead, .dead, .dead, .dead, .dead, .dead, .dead, .dead, .dead, .dead, .dead, .dead, .dead, .dead, .dead, .dead, .dead, .dead]
abbrev e_lodgelaw9_ConvOnly_0 : List (AX × List Slot) := [(AX.exit 0, [.dead, .dead, .dead, .dead, .dead, .dead, .dead, .dead, .dead, .dead, .dead, .dead, .dead, .dead, .dead, .dead, .dead, .dead, .dead, .dead, .dead, .dead, .dead, .dead, .dead, .dead, .dead, .dead, .dead, .dead, .dead, .dead, .dead, .dead, .dead, .dead, .dead, .dead, .dead, .dead, .dead, .dead, .dead, .dead, .dead, .dead, .dead, .dead, .dead, .dead, .dead, .dead, .dead, .dead, .dead, .dead, .dead, .dead, .dead, .dead, .dead, .dead, .dead, .dead, .dead, .dead, .dead, .dead, .dead, .dead, .dead, .dead, .dead, .dead, .dead, .dead, .dead, .dead, .dead, .dead, .dead, .dead, .dead, .dead, .dead, .dead, .dead, .dead, .dead, .dead, .dead, .dead, .dead, .dead, .dead, .dead, .dead, .dead, .dead, .dead, .dead, .dead, .dead, .dead, .dead, .dead, .dead, .dead, .dead, .dead, .dead, .dead, .dead, .dead, .dead, .dead, .dead, .dead, .dead, .dead, .dead, .dead, .dead, .dead, .dead, .dead, .dead, .dead, .dead, .dead, .dead, .dead, .dead, .dead, .dead, .dead, .dead, .dead, .dead, .dead, .dead, .dead, .dead, .dead, .dead, .dead, .dead, .dead, .dead, .dead, .dead, .dead, .dead, .dead, .dead, .dead, .dead, .dead]), (AX.ret, [.dead, .dead, .dead, .dead, .dead, .dead, .dead, .dead, .dead, .dead, .dead, .dead, .dead, .dead, .data .bool, .dead, .dead, .dead, .dead, .dead, .dead, .dead, .dead, .dead, .dead, .dead, .dead, .dead, .dead, .dead, .dead, .dead, .dead, .dead, .dead, .dead, .dead, .dead, .dead, .dead, .dead, .dead, .dead, .dead, .dead, .dead, .dead, .dead, .dead, .dead, .dead, .dead, .dead, .dead, .dead, .dead, .dead, .dead, .dead, .dead, .dead, .dead, .dead, .dead, .dead, .dead, .dead, .dead, .dead, .dead, .dead, .dead, .dead, .dead, .dead, .dead, .dead, .dead, .dead, .dead, .dead, .dead, .dead, .dead, .dead, .dead, .dead, .dead, .dead, .dead, .dead, .dead, .dead, .dead, .dead, .dead, .dead, .dead, .dead, .dead, .dead, .dead, .dead, .dead, .dead, .dead, .dead, .dead, .dead, .dead, .dead, .dead, .dead, .dead, .dead, .dead, .dead, .dead, .dead, .dead, .dead, .dead, .dead, .dead, .dead, .dead, .dead, .dead, .dead, .dead, .dead, .dead, .dead, .dead, .dead, .dead, .dead, .dead, .dead, .dead, .dead, .dead, .dead, .dead, .dead, .dead, .dead, .dead, .dead, .dead, .dead, .dead, .dead, .dead, .dead, .dead, .dead, .dead])]
def g_lodgelaw9_ConvOnly_0 (N : Nat) : Nat → Int → Int → Int → Int → Int → (((List Int × Bool) × List Int) × Unit) → (List Int × (Bool × (List Int × Unit))) → Int → Option (Sum Unit (Bool × Unit))
  | 0, _, _, _, _, _, _, _, _ => none
  | n + 1, w_1, k_2, y_3, x_4, v_5, r_17, t_18, i_20 =>
    cond (decide (i_20 < (Nat.cast (List.length (((t_18).2).2).1) : Int)))
      (
      cond (decide (@Ne Int (wi64 ((wi64 (w_1 - k_2)) + (1 : Int))) (0 : Int)))
        (
        cond (decide (@Ne Int (wi64 ((wi64 (w_1 - k_2)) + (1 : Int))) (0 : Int)))
          (
          cond (decide ((0 : Int) ≤ (wi64 (y_3 - (wi64 (Int.tdiv i_20 (wi64 ((wi64 (w_1 - k_2)) + (1 : Int)))))))))
            (
            cond (decide ((0 : Int) ≤ (wi64 (x_4 - (Int.tmod i_20 (wi64 ((wi64 (w_1 - k_2)) + (1 : Int))))))))
              (
              cond (decide ((wi64 (y_3 - (wi64 (Int.tdiv i_20 (wi64 ((wi64 (w_1 - k_2)) + (1 : Int))))))) < k_2))
                (
                cond (decide ((wi64 (x_4 - (Int.tmod i_20 (wi64 ((wi64 (w_1 - k_2)) + (1 : Int)))))) < k_2))
                  (
                  cond (decide ((0 : Int) ≤ (wi64 ((wi64 ((wi64 (y_3 - (wi64 (Int.tdiv i_20 (wi64 ((wi64 (w_1 - k_2)) + (1 : Int))))))) * k_2)) + (wi64 (x_4 - (Int.tmod i_20 (wi64 ((wi64 (w_1 - k_2)) + (1 : Int))))))))))
                    (
                    cond (decide ((Int.toNat (wi64 ((wi64 ((wi64 (y_3 - (wi64 (Int.tdiv i_20 (wi64 ((wi64 (w_1 - k_2)) + (1 : Int))))))) * k_2)) + (wi64 (x_4 - (Int.tmod i_20 (wi64 ((wi64 (w_1 - k_2)) + (1 : Int))))))))) < (List.length ((r_17).1).2)))
                      (
                      cond (decide ((0 : Int) ≤ i_20))
                        (
                        cond (decide ((Int.toNat i_20) < (List.length (((t_18).2).2).1)))
                          (
                          cond (decide (((0 : Nat) + (Int.toNat i_20)) < (List.length (((t_18).2).2).1)))
                            (
                            cond (decide (@Ne Int (List.getD (((t_18).2).2).1 ((0 : Nat) + (Int.toNat i_20)) (0 : Int)) (wi64 (v_5 * (List.getD ((r_17).1).2 (Int.toNat (wi64 ((wi64 ((wi64 (y_3 - (wi64 (Int.tdiv i_20 (wi64 ((wi64 (w_1 - k_2)) + (1 : Int))))))) * k_2)) + (wi64 (x_4 - (Int.tmod i_20 (wi64 ((wi64 (w_1 - k_2)) + (1 : Int))))))))) (0 : Int))))))
                              (
                              some (Sum.inr (false, ())))
                              (
                              cond (decide ((List.length (((t_18).2).2).1) = (List.length (((t_18).2).2).1)))
                                (
                                (g_lodgelaw9_ConvOnly_0 N n w_1 k_2 y_3 x_4 v_5 r_17 t_18 (wi64 (i_20 + (1 : Int)))))
                                (
                                none)))
                            (
                            none))
                          (
                          none))
                        (
                        none))
                      (
                      none))
                    (
                    none))
                  (
                  cond (decide ((0 : Int) ≤ i_20))
                    (
                    cond (decide ((Int.toNat i_20) < (List.length (((t_18).2).2).1)))
                      (
                      cond (decide (((0 : Nat) + (Int.toNat i_20)) < (List.length (((t_18).2).2).1)))
                        (
                        cond (decide (@Ne Int (List.getD (((t_18).2).2).1 ((0 : Nat) + (Int.toNat i_20)) (0 : Int)) (0 : Int)))
                          (
                          some (Sum.inr (false, ())))
                          (
                          cond (decide ((List.length (((t_18).2).2).1) = (List.length (((t_18).2).2).1)))
                            (
                            (g_lodgelaw9_ConvOnly_0 N n w_1 k_2 y_3 x_4 v_5 r_17 t_18 (wi64 (i_20 + (1 : Int)))))
                            (
                            none)))
                        (
                        none))
                      (
                      none))
                    (
                    none)))
                (
                cond (decide ((0 : Int) ≤ i_20))
                  (
                  cond (decide ((Int.toNat i_20) < (List.length (((t_18).2).2).1)))
                    (
                    cond (decide (((0 : Nat) + (Int.toNat i_20)) < (List.length (((t_18).2).2).1)))
                      (
                      cond (decide (@Ne Int (List.getD (((t_18).2).2).1 ((0 : Nat) + (Int.toNat i_20)) (0 : Int)) (0 : Int)))
                        (
                        some (Sum.inr (false, ())))
                        (
                        cond (decide ((List.length (((t_18).2).2).1) = (List.length (((t_18).2).2).1)))
                          (
                          (g_lodgelaw9_ConvOnly_0 N n w_1 k_2 y_3 x_4 v_5 r_17 t_18 (wi64 (i_20 + (1 : Int)))))
                          (
                          none)))
                      (
                      none))
                    (
                    none))
                  (
                  none)))
              (
              cond (decide ((0 : Int) ≤ i_20))
                (
                cond (decide ((Int.toNat i_20) < (List.length (((t_18).2).2).1)))
                  (
                  cond (decide (((0 : Nat) + (Int.toNat i_20)) < (List.length (((t_18).2).2).1)))
                    (
                    cond (decide (@Ne Int (List.getD (((t_18).2).2).1 ((0 : Nat) + (Int.toNat i_20)) (0 : Int)) (0 : Int)))
                      (
                      some (Sum.inr (false, ())))
                      (
                      cond (decide ((List.length (((t_18).2).2).1) = (List.length (((t_18).2).2).1)))
                        (
                        (g_lodgelaw9_ConvOnly_0 N n w_1 k_2 y_3 x_4 v_5 r_17 t_18 (wi64 (i_20 + (1 : Int)))))
                        (
                        none)))
                    (
                    none))
                  (
                  none))
                (
                none)))
            (
            cond (decide ((0 : Int) ≤ i_20))
              (
              cond (decide ((Int.toNat i_20) < (List.length (((t_18).2).2).1)))
                (
                cond (decide (((0 : Nat) + (Int.toNat i_20)) < (List.length (((t_18).2).2).1)))
                  (
                  cond (decide (@Ne Int (List.getD (((t_18).2).2).1 ((0 : Nat) + (Int.toNat i_20)) (0 : Int)) (0 : Int)))
                    (
                    some (Sum.inr (false, ())))
                    (
                    cond (decide ((List.length (((t_18).2).2).1) = (List.length (((t_18).2).2).1)))
                      (
                      (g_lodgelaw9_ConvOnly_0 N n w_1 k_2 y_3 x_4 v_5 r_17 t_18 (wi64 (i_20 + (1 : Int)))))
                      (
                      none)))
                  (
                  none))
                (
                none))
              (
              none)))
          (
          none))
        (
        none))
      (
      some (Sum.inl ()))

def F_lodgelaw9_ConvOnly (N : Nat) (h_0 : Int) (w_1 : Int) (k_2 : Int) (y_3 : Int) (x_4 : Int) (v_5 : Int) (l_6 : List Int) : Option (Bool × Unit) :=
  Option.bind (F_lodgelaw9_first N) fun y0 =>
  cond (Bool.not (y0).1)
    (
    some (false, ()))
    (
    cond (decide ((30 : Int) < (Nat.cast (List.length l_6) : Int)))
      (
      some y0)
      (
      cond (Bool.not (y0).1)
        (
        some y0)
        (
        Option.bind (F_lodgeworld_Number N h_0 (6 : Int)) fun y1 =>
        Option.bind (F_lodgeworld_Number N w_1 (6 : Int)) fun y2 =>
        Option.bind (F_lodgeworld_Number N k_2 (Go.Eng.imin (wi64 ((y1).1 + (1 : Int))) (wi64 ((y2).1 + (1 : Int))))) fun y3 =>
        Option.bind (F_lodgeworld_Number N y_3 (wi64 ((y1).1 + (1 : Int)))) fun y4 =>
        Option.bind (F_lodgeworld_Number N x_4 (wi64 ((y2).1 + (1 : Int)))) fun y5 =>
        Option.bind (F_lodgeworld_Number N v_5 (100 : Int)) fun y6 =>
        Option.bind (F_lodgelaw9_tensor N ((wi64 ((y1).1 + (1 : Int))) :: ((wi64 ((y2).1 + (1 : Int))) :: ((1 : Int) :: ([] : List Int)))) ([] : List Int)) fun y7 =>
        cond (decide ((0 : Int) ≤ (wi64 ((wi64 ((y4).1 * (wi64 ((y2).1 + (1 : Int))))) + (y5).1))))
          (
          cond (decide ((Int.toNat (wi64 ((wi64 ((y4).1 * (wi64 ((y2).1 + (1 : Int))))) + (y5).1))) < (List.length ((((y7).1).2).2).1)))
            (
            cond (decide (((0 : Nat) + (Int.toNat (wi64 ((wi64 ((y4).1 * (wi64 ((y2).1 + (1 : Int))))) + (y5).1)))) < (List.length ((((y7).1).2).2).1)))
              (
              Option.bind (F_lodgeref_Ints N l_6) fun y8 =>
              cond (decide (((0 : Nat) + (List.length (y8).1)) = (List.length (y8).1)))
                (
                cond (decide ((((List.length (y8).1) + 1) * (8 + (1 : Nat))) ≤ Go.Eng.most))
                  (
                  cond (decide (((0 : Nat) + ((List.length (y8).1) + 1)) ≤ (List.length ((List.take (List.length (y8).1) (y8).1) ++ ((3 : Int) :: ([] : List Int))))))
                    (
                    Option.bind (F_lodgelaw9_tensor N ((wi64 ((y3).1 + (1 : Int))) :: ((wi64 ((y3).1 + (1 : Int))) :: ((1 : Int) :: ((1 : Int) :: ([] : List Int))))) (List.take ((List.length (y8).1) + 1) ((List.take (List.length (y8).1) (y8).1) ++ ((3 : Int) :: ([] : List Int))))) fun y9 =>
                    cond (decide (((0 : Nat) + (List.length ((((y7).1).2).2).1)) ≤ (List.length (List.set ((((y7).1).2).2).1 ((0 : Nat) + (Int.toNat (wi64 ((wi64 ((y4).1 * (wi64 ((y2).1 + (1 : Int))))) + (y5).1)))) (wi64 ((y6).1 + (1 : Int)))))))
                      (
                      cond (decide (((0 : Nat) + (List.length ((((y9).1).2).2).1)) ≤ (List.length ((((y9).1).2).2).1)))
                        (
                        Option.bind (F_conv_Do N ((((y7).1).1, (((y7).1).2).1), (List.take (List.length ((((y7).1).2).2).1) (List.set ((((y7).1).2).2).1 ((0 : Nat) + (Int.toNat (wi64 ((wi64 ((y4).1 * (wi64 ((y2).1 + (1 : Int))))) + (y5).1)))) (wi64 ((y6).1 + (1 : Int)))))) ((((y9).1).1, (((y9).1).2).1), (List.take (List.length ((((y9).1).2).2).1) ((((y9).1).2).2).1)) ((1 : Int) :: ((0 : Int) :: ((0 : Int) :: ([] : List Int))))) fun y10 =>
                        cond (Bool.not (Go.Eng.Er.isNil ((y10).2).1))
                          (
                          some (false, ()))
                          (
                          cond (decide (@Ne Int (Nat.cast (List.length ((((y10).1).2).2).1) : Int) (wi64 ((wi64 ((wi64 ((wi64 ((y1).1 + (1 : Int))) - (wi64 ((y3).1 + (1 : Int))))) + (1 : Int))) * (wi64 ((wi64 ((wi64 ((y2).1 + (1 : Int))) - (wi64 ((y3).1 + (1 : Int))))) + (1 : Int)))))))
                            (
                            some (false, ()))
                            (
                            cond (decide (((0 : Nat) + (List.length ((((y9).1).2).2).1)) ≤ (List.length ((((y9).1).2).2).1)))
                              (
                              cond (decide (((0 : Nat) + (List.length ((((y9).1).2).2).1)) ≤ (List.length ((((y9).1).2).2).1)))
                                (
                                cond (decide ((List.length ((((y10).1).2).2).1) = (List.length ((((y10).1).2).2).1)))
                                  (
                                  Option.bind (g_lodgelaw9_ConvOnly_0 N N (wi64 ((y2).1 + (1 : Int))) (wi64 ((y3).1 + (1 : Int))) (y4).1 (y5).1 (wi64 ((y6).1 + (1 : Int))) (((((y9).1).1, (((y9).1).2).1), (List.take (List.length ((((y9).1).2).2).1) ((((y9).1).2).2).1)), ()) (y10).1 (0 : Int)) fun y11 =>
                                  Sum.elim (fun y12 =>
                                    some (true, ()))
                                    (fun y13 =>
                                    some y13) y11)
                                  (
                                  none))
                                (
                                none))
                              (
                              none))))
                        (
                        none))
                      (
                      none))
                    (
                    none))
                  (
                  none))
                (
                none))
              (
              none))
            (
            none))
          (
          none))))

abbrev c_lodgelaw9_ConvOnly (N : Nat) : CallSpec := ⟨4, ps_lodgelaw9_ConvOnly, rs_lodgelaw9_ConvOnly, fun x => F_lodgelaw9_ConvOnly N x.1 x.2.1 x.2.2.1 x.2.2.2.1 x.2.2.2.2.1 x.2.2.2.2.2.1 x.2.2.2.2.2.2.1⟩
abbrev l_lodgelaw9_ConvOnly_0 (N : Nat) : LoopSpec := ⟨0, h_lodgelaw9_ConvOnly_0, e_lodgelaw9_ConvOnly_0, fun x => g_lodgelaw9_ConvOnly_0 N N x.1 x.2.1 x.2.2.1 x.2.2.2.1 x.2.2.2.2.1 x.2.2.2.2.2.1 x.2.2.2.2.2.2.1 x.2.2.2.2.2.2.2.1⟩

theorem cs_lodgelaw9_ConvOnly_ok (S : Nat → Addr) (N : Nat) : CallsOK Go.Proofs.Tryd.prog E S (cs_lodgelaw9_ConvOnly N) :=
  .cons (F_conv_Do_ok S N) (.cons (F_lodgelaw9_first_ok S N) (.cons (F_lodgeworld_Number_ok S N) (.cons (F_lodgelaw9_tensor_ok S N) (.cons (F_lodgeref_Ints_ok S N) (.nil)))))
noncomputable abbrev b_lodgelaw9_ConvOnly_0 : Code := (loopsOf b_lodgelaw9_ConvOnly).getD 0 .skip
theorem g_lodgelaw9_ConvOnly_0_ok (S : Nat → Addr) (N : Nat) : ∀ n x y, (fun (x : Val (slotsTy h_lodgelaw9_ConvOnly_0)) => g_lodgelaw9_ConvOnly_0 N n x.1 x.2.1 x.2.2.1 x.2.2.2.1 x.2.2.2.2.1 x.2.2.2.2.2.1 x.2.2.2.2.2.2.1 x.2.2.2.2.2.2.2.1) x = some y → LoopCon Go.Proofs.Tryd.prog E S b_lodgelaw9_ConvOnly_0 (encSlots h_lodgelaw9_ConvOnly_0 x) (encEx e_lodgelaw9_ConvOnly_0 y).1 (encEx e_lodgelaw9_ConvOnly_0 y).2 :=
  loop_spec E_ok mixed (cs_lodgelaw9_ConvOnly_ok S N) (all := loopsOf b_lodgelaw9_ConvOnly) (ls := []) (.nil) (i := 0) (by kernel_rfl) (inner_of (by kernel_rfl)) (head := h_lodgelaw9_ConvOnly_0) (ex := e_lodgelaw9_ConvOnly_0) (fun n (x : Val (slotsTy h_lodgelaw9_ConvOnly_0)) => g_lodgelaw9_ConvOnly_0 N n x.1 x.2.1 x.2.2.1 x.2.2.2.1 x.2.2.2.2.1 x.2.2.2.2.2.1 x.2.2.2.2.2.2.1 x.2.2.2.2.2.2.2.1) (fun _ => rfl) (fun n x => by kernel_rfl)
theorem F_lodgelaw9_ConvOnly_ok (S : Nat → Addr) (N : Nat) : ∀ x y, (c_lodgelaw9_ConvOnly N).g x = some y → FCon Go.Proofs.Tryd.prog E S 4 ps_lodgelaw9_ConvOnly rs_lodgelaw9_ConvOnly x y := by
  intro x y h
  exact fun_spec E_ok mixed (cs_lodgelaw9_ConvOnly_ok S N) (f := 4) (fi := ⟨b_lodgelaw9_ConvOnly, 158, Go.Proofs.Tryd.f4.results.toList⟩) (by kernel_rfl) (ls := [l_lodgelaw9_ConvOnly_0 N]) (.cons (by kernel_rfl) (g_lodgelaw9_ConvOnly_0_ok S N N) (.nil)) (by kernel_rfl) (ps := ps_lodgelaw9_ConvOnly) (rs := rs_lodgelaw9_ConvOnly) (Eq.trans (b := F_lodgelaw9_ConvOnly N x.1 x.2.1 x.2.2.1 x.2.2.2.1 x.2.2.2.2.1 x.2.2.2.2.2.1 x.2.2.2.2.2.2.1) (by kernel_rfl) h)

/-! lodge/conv.Cell -/

abbrev ps_conv_Cell : List Ty := [(.st (.pair (.st (.pair (.sl (.int .i64)) .bool)) (.sl (.int .i64)))), (.st (.pair (.st (.pair (.sl (.int .i64)) .bool)) (.sl (.int .i64)))), (.int .i64), (.sl (.int .i64))]
abbrev rs_conv_Cell : List Slot := [.data (.int .i64)]
abbrev cs_conv_Cell (N : Nat) : List CallSpec := [c_shape_Elems N, c_conv_result N, c_conv_of N, c_conv_At N]
noncomputable abbrev b_conv_Cell : Code := (Go.Proofs.Tryd.f23.body).getD .skip

def F_conv_Cell (N : Nat) (a_0 : ((List Int × Bool) × List Int)) (k_1 : ((List Int × Bool) × List Int)) (i_2 : Int) (args_3 : List Int) : Option (Int × Unit) :=
  Option.bind (F_conv_result N a_0 k_1 args_3) fun y0 =>
  cond (Bool.not (Go.Eng.Er.isNil ((y0).2).1))
    (
    some ((0 : Int), ()))
    (
    cond (decide (i_2 < (0 : Int)))
      (
      some ((0 : Int), ()))
      (
      Option.bind (F_shape_Elems N ((y0).1).1) fun y1 =>
      cond (decide ((y1).1 ≤ i_2))
        (
        some ((0 : Int), ()))
        (
        Option.bind (F_conv_of N a_0) fun y2 =>
        Option.bind (F_conv_of N k_1) fun y3 =>
        cond (decide (1 < (List.length ((y0).1).1)))
          (
          Option.bind (F_conv_At N args_3 ((a_0).1).1 ((k_1).1).1 (y2).1 (y3).1 i_2 (List.getD ((y0).1).1 1 (0 : Int))) fun y4 =>
          some y4)
          (
          none))))

abbrev c_conv_Cell (N : Nat) : CallSpec := ⟨23, ps_conv_Cell, rs_conv_Cell, fun x => F_conv_Cell N x.1 x.2.1 x.2.2.1 x.2.2.2.1⟩

theorem cs_conv_Cell_ok (S : Nat → Addr) (N : Nat) : CallsOK Go.Proofs.Tryd.prog E S (cs_conv_Cell N) :=
  .cons (F_shape_Elems_ok S N) (.cons (F_conv_result_ok S N) (.cons (F_conv_of_ok S N) (.cons (F_conv_At_ok S N) (.nil))))
theorem F_conv_Cell_ok (S : Nat → Addr) (N : Nat) : ∀ x y, (c_conv_Cell N).g x = some y → FCon Go.Proofs.Tryd.prog E S 23 ps_conv_Cell rs_conv_Cell x y := by
  intro x y h
  exact fun_spec E_ok mixed (cs_conv_Cell_ok S N) (f := 23) (fi := ⟨b_conv_Cell, 48, Go.Proofs.Tryd.f23.results.toList⟩) (by kernel_rfl) (ls := []) (.nil) (by kernel_rfl) (ps := ps_conv_Cell) (rs := rs_conv_Cell) (Eq.trans (b := F_conv_Cell N x.1 x.2.1 x.2.2.1 x.2.2.2.1) (by kernel_rfl) h)

/-! lodge/lodgelaw9.ConvStrides -/

abbrev ps_lodgelaw9_ConvStrides : List Ty := [(.int .i64), (.int .i64), (.int .i64), (.int .i64), (.int .i64), (.sl (.int .i64))]
abbrev rs_lodgelaw9_ConvStrides : List Slot := [.data .bool]
abbrev cs_lodgelaw9_ConvStrides (N : Nat) : List CallSpec := [c_conv_Do N, c_lodgelaw9_first N, c_lodgeworld_Number N, c_lodgelaw9_tensor N, c_lodgeref_Ints N, c_conv_Cell N]
noncomputable abbrev b_lodgelaw9_ConvStrides : Code := (Go.Proofs.Tryd.f6.body).getD .skip

abbrev h_lodgelaw9_ConvStrides_0 : List Slot := [.dead, .dead, .dead, .data (.int .i64), .data (.int .i64), .dead, .dead, .dead, .dead, .dead, .dead, .dead, .dead, .dead, .box [.d (.st (.pair (.st (.pair (.sl (.int .i64)) .bool)) (.sl (.int .i64))))], .box [.d (.st (.pair (.st (.pair (.sl (.int .i64)) .bool)) (.sl (.int .i64))))], .box [.d (.sl (.int .i64)), .d .bool, .sl (.int .i64)], .dead, .box [.d (.sl (.int .i64)), .d .bool, .sl (.int .i64)], .dead, .data (.int .i64), .dead, .dead, .dead, .dead, .dead, .dead, .dead, .dead, .dead, .dead, .dead, .dead, .dead, .dead, .dead, .dead, .dead, .dead, .dead, .dead, .dead, .dead, .dead, .dead, .dead, .dead, .dead, .dead, .dead, .dead, .dead, .dead, .dead, .dead, .dead, .dead, .dead, .dead, .dead, .dead, .dead, .dead, .dead, .dead, .dead, .dead, .dead, .dead, .dead, .dead, .dead, .dead, .dead, .dead, .dead, .dead, .dead, .dead, .dead, .dead, .dead, .dead, .dead, .dead, .dead, .dead, .dead, .dead, .dead, .dead, .dead, .dead, .dead, .dead, .dead, .dead, .dead, .dead, .dead, .dead, .dead, .dead, .dead, .dead, .dead, .dead, .dead, .dead, .dead, .dead, .dead, .dead, .dead, .dead, .dead, .dead, .dead, .dead, .dead, .dead, .dead, .dead, .dead, .dead, .dead, .dead, .dead, .dead, .dead, .dead, .dead, .dead, .dead, .dead, .dead, .dead, .dead, .dead, .dead, .dead, .dead, .dead, .dead, .dead, .dead, .dead, .dead, .dead, .dead, .dead, .dead, .dead, .dead, .dead, .dead, .dead, .dead, .dead, .dead, .dead, .dead, .dead, .dead, .dead, .dead, .dead]
abbrev e_lodgelaw9_ConvStrides_0 : List (AX × List Slot) := [(AX.exit 0, [.dead, .dead, .dead, .data (.int .i64), .dead, .dead, .dead, .dead, .dead, .dead, .dead, .dead, .dead, .dead, .dead, .dead, .box [.d (.sl (.int .i64)), .d .bool, .sl (.int .i64)], .dead, .box [.d (.sl (.int .i64)), .d .bool, .sl (.int .i64)], .dead, .dead, .dead, .dead, .dead, .dead, .dead, .dead, .dead, .dead, .dead, .dead, .dead, .dead, .dead, .dead, .dead, .dead, .dead, .dead, .dead, .dead, .dead, .dead, .dead, .dead, .dead, .dead, .dead, .dead, .dead, .dead, .dead, .dead, .dead, .dead, .dead, .dead, .dead, .dead, .dead, .dead, .dead, .dead, .dead, .dead, .dead, .dead, .dead, .dead, .dead, .dead, .dead, .dead, .dead, .dead, .dead, .dead, .dead, .dead, .dead, .dead, .dead, .dead, .dead, .dead, .dead, .dead, .dead, .dead, .dead, .dead, .dead, .dead, .dead, .dead, .dead, .dead, .dead, .dead, .dead, .dead, .dead, .dead, .dead, .dead, .dead, .dead, .dead, .dead, .dead, .dead, .dead, .dead, .dead, .dead, .dead, .dead, .dead, .dead, .dead, .dead, .dead, .dead, .dead, .dead, .dead, .dead, .dead, .dead, .dead, .dead, .dead, .dead, .dead, .dead, .dead, .dead, .dead, .dead, .dead, .dead, .dead, .dead, .dead, .dead, .dead, .dead, .dead, .dead, .dead, .dead, .dead, .dead, .dead, .dead, .dead, .dead, .dead, .dead, .dead, .dead, .dead, .dead, .dead, .dead, .dead, .dead]), (AX.ret, [.dead, .dead, .dead, .dead, .dead, .dead, .dead, .dead, .dead, .dead, .dead, .dead, .data .bool, .dead, .dead, .dead, .dead, .dead, .dead, .dead, .dead, .dead, .dead, .dead, .dead, .dead, .dead, .dead, .dead, .dead, .dead, .dead, .dead, .dead, .dead, .dead, .dead, .dead, .dead, .dead, .dead, .dead, .dead, .dead, .dead, .dead, .dead, .dead, .dead, .dead, .dead, .dead, .dead, .dead, .dead, .dead, .dead, .dead, .dead, .dead, .dead, .dead, .dead, .dead, .dead, .dead, .dead, .dead, .dead, .dead, .dead, .dead, .dead, .dead, .dead, .dead, .dead, .dead, .dead, .dead, .dead, .dead, .dead, .dead, .dead, .dead, .dead, .dead, .dead, .dead, .dead, .dead, .dead, .dead, .dead, .dead, .dead, .dead, .dead, .dead, .dead, .dead, .dead, .dead, .dead, .dead, .dead, .dead, .dead, .dead, .dead, .dead, .dead, .dead, .dead, .dead, .dead, .dead, .dead, .dead, .dead, .dead, .dead, .dead, .dead, .dead, .dead, .dead, .dead, .dead, .dead, .dead, .dead, .dead, .dead, .dead, .dead, .dead, .dead, .dead, .dead, .dead, .dead, .dead, .dead, .dead, .dead, .dead, .dead, .dead, .dead, .dead, .dead, .dead, .dead, .dead, .dead, .dead, .dead, .dead, .dead, .dead, .dead, .dead, .dead, .dead, .dead])]
def g_lodgelaw9_ConvStrides_0 (N : Nat) : Nat → Int → Int → (((List Int × Bool) × List Int) × Unit) → (((List Int × Bool) × List Int) × Unit) → (List Int × (Bool × (List Int × Unit))) → (List Int × (Bool × (List Int × Unit))) → Int → Option (Sum (Int × ((List Int × (Bool × (List Int × Unit))) × ((List Int × (Bool × (List Int × Unit))) × Unit))) (Bool × Unit))
  | 0, _, _, _, _, _, _, _ => none
  | n + 1, stride_3, pad_4, a_14, r_15, t_16, u_18, i_20 =>
    cond (decide (i_20 < (Nat.cast (List.length (((u_18).2).2).1) : Int)))
      (
      cond (decide (1 < (List.length (u_18).1)))
        (
        cond (decide (@Ne Int (List.getD (u_18).1 1 (0 : Int)) (0 : Int)))
          (
          cond (decide (1 < (List.length (u_18).1)))
            (
            cond (decide (@Ne Int (List.getD (u_18).1 1 (0 : Int)) (0 : Int)))
              (
              cond (decide ((0 : Int) ≤ i_20))
                (
                cond (decide ((Int.toNat i_20) < (List.length (((u_18).2).2).1)))
                  (
                  cond (decide (((0 : Nat) + (Int.toNat i_20)) < (List.length (((u_18).2).2).1)))
                    (
                    cond (decide (1 < (List.length (t_16).1)))
                      (
                      cond (decide ((0 : Int) ≤ (wi64 ((wi64 ((wi64 ((wi64 ((wi64 ((wi64 (Int.tdiv (wi64 (Int.tdiv i_20 (2 : Int))) (List.getD (u_18).1 1 (0 : Int)))) * stride_3)) * (List.getD (t_16).1 1 (0 : Int)))) + (wi64 ((Int.tmod (wi64 (Int.tdiv i_20 (2 : Int))) (List.getD (u_18).1 1 (0 : Int))) * stride_3)))) * (2 : Int))) + (Int.tmod i_20 (2 : Int))))))
                        (
                        cond (decide ((Int.toNat (wi64 ((wi64 ((wi64 ((wi64 ((wi64 ((wi64 (Int.tdiv (wi64 (Int.tdiv i_20 (2 : Int))) (List.getD (u_18).1 1 (0 : Int)))) * stride_3)) * (List.getD (t_16).1 1 (0 : Int)))) + (wi64 ((Int.tmod (wi64 (Int.tdiv i_20 (2 : Int))) (List.getD (u_18).1 1 (0 : Int))) * stride_3)))) * (2 : Int))) + (Int.tmod i_20 (2 : Int))))) < (List.length (((t_16).2).2).1)))
                          (
                          cond (decide (((0 : Nat) + (Int.toNat (wi64 ((wi64 ((wi64 ((wi64 ((wi64 ((wi64 (Int.tdiv (wi64 (Int.tdiv i_20 (2 : Int))) (List.getD (u_18).1 1 (0 : Int)))) * stride_3)) * (List.getD (t_16).1 1 (0 : Int)))) + (wi64 ((Int.tmod (wi64 (Int.tdiv i_20 (2 : Int))) (List.getD (u_18).1 1 (0 : Int))) * stride_3)))) * (2 : Int))) + (Int.tmod i_20 (2 : Int)))))) < (List.length (((t_16).2).2).1)))
                            (
                            cond (decide (@Ne Int (List.getD (((u_18).2).2).1 ((0 : Nat) + (Int.toNat i_20)) (0 : Int)) (List.getD (((t_16).2).2).1 ((0 : Nat) + (Int.toNat (wi64 ((wi64 ((wi64 ((wi64 ((wi64 ((wi64 (Int.tdiv (wi64 (Int.tdiv i_20 (2 : Int))) (List.getD (u_18).1 1 (0 : Int)))) * stride_3)) * (List.getD (t_16).1 1 (0 : Int)))) + (wi64 ((Int.tmod (wi64 (Int.tdiv i_20 (2 : Int))) (List.getD (u_18).1 1 (0 : Int))) * stride_3)))) * (2 : Int))) + (Int.tmod i_20 (2 : Int)))))) (0 : Int))))
                              (
                              some (Sum.inr (false, ())))
                              (
                              Option.bind (F_conv_Cell N (a_14).1 (r_15).1 i_20 (stride_3 :: (pad_4 :: ((1 : Int) :: ([] : List Int))))) fun y12 =>
                              cond (decide ((0 : Int) ≤ i_20))
                                (
                                cond (decide ((Int.toNat i_20) < (List.length (((u_18).2).2).1)))
                                  (
                                  cond (decide (((0 : Nat) + (Int.toNat i_20)) < (List.length (((u_18).2).2).1)))
                                    (
                                    cond (decide (@Ne Int (y12).1 (List.getD (((u_18).2).2).1 ((0 : Nat) + (Int.toNat i_20)) (0 : Int))))
                                      (
                                      some (Sum.inr (false, ())))
                                      (
                                      cond (decide ((List.length (((t_16).2).2).1) = (List.length (((t_16).2).2).1)))
                                        (
                                        cond (decide ((List.length (((u_18).2).2).1) = (List.length (((u_18).2).2).1)))
                                          (
                                          (g_lodgelaw9_ConvStrides_0 N n stride_3 pad_4 a_14 r_15 t_16 u_18 (wi64 (i_20 + (1 : Int)))))
                                          (
                                          none))
                                        (
                                        none)))
                                    (
                                    none))
                                  (
                                  none))
                                (
                                none)))
                            (
                            none))
                          (
                          none))
                        (
                        none))
                      (
                      none))
                    (
                    none))
                  (
                  none))
                (
                none))
              (
              none))
            (
            none))
          (
          none))
        (
        none))
      (
      cond (decide ((List.length (((t_16).2).2).1) = (List.length (((t_16).2).2).1)))
        (
        cond (decide ((List.length (((u_18).2).2).1) = (List.length (((u_18).2).2).1)))
          (
          some (Sum.inl (stride_3, (t_16, (u_18, ())))))
          (
          none))
        (
        none))

def F_lodgelaw9_ConvStrides (N : Nat) (h_0 : Int) (w_1 : Int) (k_2 : Int) (stride_3 : Int) (pad_4 : Int) (l_5 : List Int) : Option (Bool × Unit) :=
  Option.bind (F_lodgelaw9_first N) fun y0 =>
  cond (Bool.not (y0).1)
    (
    some (false, ()))
    (
    cond (decide ((30 : Int) < (Nat.cast (List.length l_5) : Int)))
      (
      some y0)
      (
      cond (Bool.not (y0).1)
        (
        some y0)
        (
        Option.bind (F_lodgeworld_Number N h_0 (7 : Int)) fun y1 =>
        Option.bind (F_lodgeworld_Number N w_1 (7 : Int)) fun y2 =>
        Option.bind (F_lodgeworld_Number N k_2 (Go.Eng.imin (wi64 ((y1).1 + (1 : Int))) (wi64 ((y2).1 + (1 : Int))))) fun y3 =>
        Option.bind (F_lodgeworld_Number N stride_3 (4 : Int)) fun y4 =>
        Option.bind (F_lodgeworld_Number N pad_4 (3 : Int)) fun y5 =>
        Option.bind (F_lodgelaw9_tensor N ((wi64 ((y1).1 + (1 : Int))) :: ((wi64 ((y2).1 + (1 : Int))) :: ((2 : Int) :: ([] : List Int)))) l_5) fun y6 =>
        Option.bind (F_lodgeref_Ints N l_5) fun y7 =>
        cond (decide (((0 : Nat) + (List.length (y7).1)) = (List.length (y7).1)))
          (
          cond (decide ((((List.length (y7).1) + 1) * (8 + (1 : Nat))) ≤ Go.Eng.most))
            (
            cond (decide (((0 : Nat) + ((List.length (y7).1) + 1)) ≤ (List.length ((List.take (List.length (y7).1) (y7).1) ++ ((3 : Int) :: ([] : List Int))))))
              (
              Option.bind (F_lodgelaw9_tensor N ((wi64 ((y3).1 + (1 : Int))) :: ((wi64 ((y3).1 + (1 : Int))) :: ((2 : Int) :: ((2 : Int) :: ([] : List Int))))) (List.take ((List.length (y7).1) + 1) ((List.take (List.length (y7).1) (y7).1) ++ ((3 : Int) :: ([] : List Int))))) fun y8 =>
              cond (decide (((0 : Nat) + (List.length ((((y6).1).2).2).1)) ≤ (List.length ((((y6).1).2).2).1)))
                (
                cond (decide (((0 : Nat) + (List.length ((((y8).1).2).2).1)) ≤ (List.length ((((y8).1).2).2).1)))
                  (
                  Option.bind (F_conv_Do N ((((y6).1).1, (((y6).1).2).1), (List.take (List.length ((((y6).1).2).2).1) ((((y6).1).2).2).1)) ((((y8).1).1, (((y8).1).2).1), (List.take (List.length ((((y8).1).2).2).1) ((((y8).1).2).2).1)) ((1 : Int) :: ((y5).1 :: ((1 : Int) :: ([] : List Int))))) fun y9 =>
                  cond (decide (((0 : Nat) + (List.length ((((y6).1).2).2).1)) ≤ (List.length ((((y6).1).2).2).1)))
                    (
                    cond (decide (((0 : Nat) + (List.length ((((y8).1).2).2).1)) ≤ (List.length ((((y8).1).2).2).1)))
                      (
                      Option.bind (F_conv_Do N ((((y6).1).1, (((y6).1).2).1), (List.take (List.length ((((y6).1).2).2).1) ((((y6).1).2).2).1)) ((((y8).1).1, (((y8).1).2).1), (List.take (List.length ((((y8).1).2).2).1) ((((y8).1).2).2).1)) ((wi64 ((y4).1 + (1 : Int))) :: ((y5).1 :: ((1 : Int) :: ([] : List Int))))) fun y10 =>
                      cond (Bool.not (Go.Eng.Er.isNil ((y9).2).1))
                        (
                        some (false, ()))
                        (
                        cond (Bool.not (Go.Eng.Er.isNil ((y10).2).1))
                          (
                          some (false, ()))
                          (
                          cond (decide (((0 : Nat) + (List.length ((((y6).1).2).2).1)) ≤ (List.length ((((y6).1).2).2).1)))
                            (
                            cond (decide (((0 : Nat) + (List.length ((((y8).1).2).2).1)) ≤ (List.length ((((y8).1).2).2).1)))
                              (
                              cond (decide (((0 : Nat) + (List.length ((((y6).1).2).2).1)) ≤ (List.length ((((y6).1).2).2).1)))
                                (
                                cond (decide (((0 : Nat) + (List.length ((((y8).1).2).2).1)) ≤ (List.length ((((y8).1).2).2).1)))
                                  (
                                  cond (decide ((List.length ((((y9).1).2).2).1) = (List.length ((((y9).1).2).2).1)))
                                    (
                                    cond (decide ((List.length ((((y10).1).2).2).1) = (List.length ((((y10).1).2).2).1)))
                                      (
                                      Option.bind (g_lodgelaw9_ConvStrides_0 N N (wi64 ((y4).1 + (1 : Int))) (y5).1 (((((y6).1).1, (((y6).1).2).1), (List.take (List.length ((((y6).1).2).2).1) ((((y6).1).2).2).1)), ()) (((((y8).1).1, (((y8).1).2).1), (List.take (List.length ((((y8).1).2).2).1) ((((y8).1).2).2).1)), ()) (y9).1 (y10).1 (0 : Int)) fun y11 =>
                                      Sum.elim (fun y12 =>
                                        cond (decide (0 < (List.length ((((y12).2).2).1).1)))
                                          (
                                          cond (decide (0 < (List.length (((y12).2).1).1)))
                                            (
                                            cond (decide (@Ne Int (y12).1 (0 : Int)))
                                              (
                                              some ((decide ((List.getD ((((y12).2).2).1).1 0 (0 : Int)) = (wi64 ((wi64 (Int.tdiv (wi64 ((List.getD (((y12).2).1).1 0 (0 : Int)) - (1 : Int))) (y12).1)) + (1 : Int))))), ()))
                                              (
                                              none))
                                            (
                                            none))
                                          (
                                          none))
                                        (fun y13 =>
                                        some y13) y11)
                                      (
                                      none))
                                    (
                                    none))
                                  (
                                  none))
                                (
                                none))
                              (
                              none))
                            (
                            none))))
                      (
                      none))
                    (
                    none))
                  (
                  none))
                (
                none))
              (
              none))
            (
            none))
          (
          none))))

abbrev c_lodgelaw9_ConvStrides (N : Nat) : CallSpec := ⟨6, ps_lodgelaw9_ConvStrides, rs_lodgelaw9_ConvStrides, fun x => F_lodgelaw9_ConvStrides N x.1 x.2.1 x.2.2.1 x.2.2.2.1 x.2.2.2.2.1 x.2.2.2.2.2.1⟩
abbrev l_lodgelaw9_ConvStrides_0 (N : Nat) : LoopSpec := ⟨0, h_lodgelaw9_ConvStrides_0, e_lodgelaw9_ConvStrides_0, fun x => g_lodgelaw9_ConvStrides_0 N N x.1 x.2.1 x.2.2.1 x.2.2.2.1 x.2.2.2.2.1 x.2.2.2.2.2.1 x.2.2.2.2.2.2.1⟩

theorem cs_lodgelaw9_ConvStrides_ok (S : Nat → Addr) (N : Nat) : CallsOK Go.Proofs.Tryd.prog E S (cs_lodgelaw9_ConvStrides N) :=
  .cons (F_conv_Do_ok S N) (.cons (F_lodgelaw9_first_ok S N) (.cons (F_lodgeworld_Number_ok S N) (.cons (F_lodgelaw9_tensor_ok S N) (.cons (F_lodgeref_Ints_ok S N) (.cons (F_conv_Cell_ok S N) (.nil))))))
noncomputable abbrev b_lodgelaw9_ConvStrides_0 : Code := (loopsOf b_lodgelaw9_ConvStrides).getD 0 .skip
theorem g_lodgelaw9_ConvStrides_0_ok (S : Nat → Addr) (N : Nat) : ∀ n x y, (fun (x : Val (slotsTy h_lodgelaw9_ConvStrides_0)) => g_lodgelaw9_ConvStrides_0 N n x.1 x.2.1 x.2.2.1 x.2.2.2.1 x.2.2.2.2.1 x.2.2.2.2.2.1 x.2.2.2.2.2.2.1) x = some y → LoopCon Go.Proofs.Tryd.prog E S b_lodgelaw9_ConvStrides_0 (encSlots h_lodgelaw9_ConvStrides_0 x) (encEx e_lodgelaw9_ConvStrides_0 y).1 (encEx e_lodgelaw9_ConvStrides_0 y).2 :=
  loop_spec E_ok mixed (cs_lodgelaw9_ConvStrides_ok S N) (all := loopsOf b_lodgelaw9_ConvStrides) (ls := []) (.nil) (i := 0) (by kernel_rfl) (inner_of (by kernel_rfl)) (head := h_lodgelaw9_ConvStrides_0) (ex := e_lodgelaw9_ConvStrides_0) (fun n (x : Val (slotsTy h_lodgelaw9_ConvStrides_0)) => g_lodgelaw9_ConvStrides_0 N n x.1 x.2.1 x.2.2.1 x.2.2.2.1 x.2.2.2.2.1 x.2.2.2.2.2.1 x.2.2.2.2.2.2.1) (fun _ => rfl) (fun n x => by kernel_rfl)
theorem F_lodgelaw9_ConvStrides_ok (S : Nat → Addr) (N : Nat) : ∀ x y, (c_lodgelaw9_ConvStrides N).g x = some y → FCon Go.Proofs.Tryd.prog E S 6 ps_lodgelaw9_ConvStrides rs_lodgelaw9_ConvStrides x y := by
  intro x y h
  exact fun_spec E_ok mixed (cs_lodgelaw9_ConvStrides_ok S N) (f := 6) (fi := ⟨b_lodgelaw9_ConvStrides, 167, Go.Proofs.Tryd.f6.results.toList⟩) (by kernel_rfl) (ls := [l_lodgelaw9_ConvStrides_0 N]) (.cons (by kernel_rfl) (g_lodgelaw9_ConvStrides_0_ok S N N) (.nil)) (by kernel_rfl) (ps := ps_lodgelaw9_ConvStrides) (rs := rs_lodgelaw9_ConvStrides) (Eq.trans (b := F_lodgelaw9_ConvStrides N x.1 x.2.1 x.2.2.1 x.2.2.2.1 x.2.2.2.2.1 x.2.2.2.2.2.1) (by kernel_rfl) h)

/-! slices.Equal[[]int,int] -/

abbrev ps_slices_Equal_int_int : List Ty := [(.sl (.int .i64)), (.sl (.int .i64))]
abbrev rs_slices_Equal_int_int : List Slot := [.data .bool]
abbrev cs_slices_Equal_int_int (N : Nat) : List CallSpec := []
noncomputable abbrev b_slices_Equal_int_int : Code := (Go.Proofs.Tryd.f54.body).getD .skip

abbrev h_slices_Equal_int_int_0 : List Slot := [.data (.sl (.int .i64)), .data (.sl (.int .i64)), .dead, .dead, .dead, .dead, .dead, .dead, .dead, .dead, .dead, .dead, .data (.int .i64), .data (.int .i64), .dead, .dead, .dead, .dead, .dead, .dead, .dead, .dead, .dead, .dead, .dead, .dead]
abbrev e_slices_Equal_int_int_0 : List (AX × List Slot) := [(AX.exit 0, [.dead, .dead, .dead, .dead, .dead, .dead, .dead, .dead, .dead, .dead, .dead, .dead, .dead, .dead, .dead, .dead, .dead, .dead, .dead, .dead, .dead, .dead, .dead, .dead, .dead, .dead]), (AX.ret, [.dead, .dead, .dead, .dead, .data .bool, .dead, .dead, .dead, .dead, .dead, .dead, .dead, .dead, .dead, .dead, .dead, .dead, .dead, .dead, .dead, .dead, .dead, .dead, .dead, .dead, .dead])]
def g_slices_Equal_int_int_0 (N : Nat) : Nat → List Int → List Int → Int → Int → Option (Sum Unit (Bool × Unit))
  | 0, _, _, _, _ => none
  | n + 1, s1_0, s2_1, t_12, t_13 =>
    cond (decide (t_13 < t_12))
      (
      cond (decide ((0 : Int) ≤ t_13))
        (
        cond (decide ((Int.toNat t_13) < (List.length s1_0)))
          (
          cond (decide ((0 : Int) ≤ t_13))
            (
            cond (decide ((Int.toNat t_13) < (List.length s2_1)))
              (
              cond (decide (@Ne Int (List.getD s1_0 (Int.toNat t_13) (0 : Int)) (List.getD s2_1 (Int.toNat t_13) (0 : Int))))
                (
                some (Sum.inr (false, ())))
                (
                (g_slices_Equal_int_int_0 N n s1_0 s2_1 t_12 (wi64 (t_13 + (1 : Int))))))
              (
              none))
            (
            none))
          (
          none))
        (
        none))
      (
      some (Sum.inl ()))

def F_slices_Equal_int_int (N : Nat) (s1_0 : List Int) (s2_1 : List Int) : Option (Bool × Unit) :=
  cond (decide (@Ne Int (Nat.cast (List.length s1_0) : Int) (Nat.cast (List.length s2_1) : Int)))
    (
    some (false, ()))
    (
    Option.bind (g_slices_Equal_int_int_0 N N s1_0 s2_1 (Nat.cast (List.length s1_0) : Int) (0 : Int)) fun y0 =>
    Sum.elim (fun y1 =>
      some (true, ()))
      (fun y2 =>
      some y2) y0)

abbrev c_slices_Equal_int_int (N : Nat) : CallSpec := ⟨54, ps_slices_Equal_int_int, rs_slices_Equal_int_int, fun x => F_slices_Equal_int_int N x.1 x.2.1⟩
abbrev l_slices_Equal_int_int_0 (N : Nat) : LoopSpec := ⟨0, h_slices_Equal_int_int_0, e_slices_Equal_int_int_0, fun x => g_slices_Equal_int_int_0 N N x.1 x.2.1 x.2.2.1 x.2.2.2.1⟩

theorem cs_slices_Equal_int_int_ok (S : Nat → Addr) (N : Nat) : CallsOK Go.Proofs.Tryd.prog E S (cs_slices_Equal_int_int N) :=
  .nil
noncomputable abbrev b_slices_Equal_int_int_0 : Code := (loopsOf b_slices_Equal_int_int).getD 0 .skip
theorem g_slices_Equal_int_int_0_ok (S : Nat → Addr) (N : Nat) : ∀ n x y, (fun (x : Val (slotsTy h_slices_Equal_int_int_0)) => g_slices_Equal_int_int_0 N n x.1 x.2.1 x.2.2.1 x.2.2.2.1) x = some y → LoopCon Go.Proofs.Tryd.prog E S b_slices_Equal_int_int_0 (encSlots h_slices_Equal_int_int_0 x) (encEx e_slices_Equal_int_int_0 y).1 (encEx e_slices_Equal_int_int_0 y).2 :=
  loop_spec E_ok mixed (cs_slices_Equal_int_int_ok S N) (all := loopsOf b_slices_Equal_int_int) (ls := []) (.nil) (i := 0) (by kernel_rfl) (inner_of (by kernel_rfl)) (head := h_slices_Equal_int_int_0) (ex := e_slices_Equal_int_int_0) (fun n (x : Val (slotsTy h_slices_Equal_int_int_0)) => g_slices_Equal_int_int_0 N n x.1 x.2.1 x.2.2.1 x.2.2.2.1) (fun _ => rfl) (fun n x => by kernel_rfl)
theorem F_slices_Equal_int_int_ok (S : Nat → Addr) (N : Nat) : ∀ x y, (c_slices_Equal_int_int N).g x = some y → FCon Go.Proofs.Tryd.prog E S 54 ps_slices_Equal_int_int rs_slices_Equal_int_int x y := by
  intro x y h
  exact fun_spec E_ok mixed (cs_slices_Equal_int_int_ok S N) (f := 54) (fi := ⟨b_slices_Equal_int_int, 26, Go.Proofs.Tryd.f54.results.toList⟩) (by kernel_rfl) (ls := [l_slices_Equal_int_int_0 N]) (.cons (by kernel_rfl) (g_slices_Equal_int_int_0_ok S N N) (.nil)) (by kernel_rfl) (ps := ps_slices_Equal_int_int) (rs := rs_slices_Equal_int_int) (Eq.trans (b := F_slices_Equal_int_int N x.1 x.2.1) (by kernel_rfl) h)

/-! lodge/shape.Same -/

abbrev ps_shape_Same : List Ty := [(.st (.pair (.sl (.int .i64)) .bool)), (.st (.pair (.sl (.int .i64)) .bool))]
abbrev rs_shape_Same : List Slot := [.data .bool]
abbrev cs_shape_Same (N : Nat) : List CallSpec := [c_slices_Equal_int_int N]
noncomputable abbrev b_shape_Same : Code := (Go.Proofs.Tryd.f53.body).getD .skip

def F_shape_Same (N : Nat) (a_0 : (List Int × Bool)) (b_1 : (List Int × Bool)) : Option (Bool × Unit) :=
  cond ((a_0).2 == (b_1).2)
    (
    Option.bind (F_slices_Equal_int_int N (a_0).1 (b_1).1) fun y0 =>
    some y0)
    (
    some (false, ()))

abbrev c_shape_Same (N : Nat) : CallSpec := ⟨53, ps_shape_Same, rs_shape_Same, fun x => F_shape_Same N x.1 x.2.1⟩

theorem cs_shape_Same_ok (S : Nat → Addr) (N : Nat) : CallsOK Go.Proofs.Tryd.prog E S (cs_shape_Same N) :=
  .cons (F_slices_Equal_int_int_ok S N) (.nil)
theorem F_shape_Same_ok (S : Nat → Addr) (N : Nat) : ∀ x y, (c_shape_Same N).g x = some y → FCon Go.Proofs.Tryd.prog E S 53 ps_shape_Same rs_shape_Same x y := by
  intro x y h
  exact fun_spec E_ok mixed (cs_shape_Same_ok S N) (f := 53) (fi := ⟨b_shape_Same, 17, Go.Proofs.Tryd.f53.results.toList⟩) (by kernel_rfl) (ls := []) (.nil) (by kernel_rfl) (ps := ps_shape_Same) (rs := rs_shape_Same) (Eq.trans (b := F_shape_Same N x.1 x.2.1) (by kernel_rfl) h)

/-! lodge/tens.Same -/

abbrev ps_tens_Same : List Ty := [(.st (.pair (.st (.pair (.sl (.int .i64)) .bool)) (.sl (.int .i64)))), (.st (.pair (.st (.pair (.sl (.int .i64)) .bool)) (.sl (.int .i64))))]
abbrev rs_tens_Same : List Slot := [.data .bool]
abbrev cs_tens_Same (N : Nat) : List CallSpec := [c_slices_Equal_int_int N, c_shape_Same N]
noncomputable abbrev b_tens_Same : Code := (Go.Proofs.Tryd.f27.body).getD .skip

def F_tens_Same (N : Nat) (a_0 : ((List Int × Bool) × List Int)) (b_1 : ((List Int × Bool) × List Int)) : Option (Bool × Unit) :=
  Option.bind (F_shape_Same N (a_0).1 (b_1).1) fun y0 =>
  cond (y0).1
    (
    Option.bind (F_slices_Equal_int_int N (a_0).2 (b_1).2) fun y1 =>
    some y1)
    (
    some (false, ()))

abbrev c_tens_Same (N : Nat) : CallSpec := ⟨27, ps_tens_Same, rs_tens_Same, fun x => F_tens_Same N x.1 x.2.1⟩

theorem cs_tens_Same_ok (S : Nat → Addr) (N : Nat) : CallsOK Go.Proofs.Tryd.prog E S (cs_tens_Same N) :=
  .cons (F_slices_Equal_int_int_ok S N) (.cons (F_shape_Same_ok S N) (.nil))
theorem F_tens_Same_ok (S : Nat → Addr) (N : Nat) : ∀ x y, (c_tens_Same N).g x = some y → FCon Go.Proofs.Tryd.prog E S 27 ps_tens_Same rs_tens_Same x y := by
  intro x y h
  exact fun_spec E_ok mixed (cs_tens_Same_ok S N) (f := 27) (fi := ⟨b_tens_Same, 17, Go.Proofs.Tryd.f27.results.toList⟩) (by kernel_rfl) (ls := []) (.nil) (by kernel_rfl) (ps := ps_tens_Same) (rs := rs_tens_Same) (Eq.trans (b := F_tens_Same N x.1 x.2.1) (by kernel_rfl) h)

/-! lodge/lodgelaw9.ConvPads -/

abbrev ps_lodgelaw9_ConvPads : List Ty := [(.int .i64), (.int .i64), (.int .i64), (.int .i64), (.sl (.int .i64)), (.int .i64)]
abbrev rs_lodgelaw9_ConvPads : List Slot := [.data .bool]
abbrev cs_lodgelaw9_ConvPads (N : Nat) : List CallSpec := [c_conv_Do N, c_lodgelaw9_first N, c_lodgeworld_Number N, c_lodgelaw9_tensor N, c_lodgeref_Ints N, c_tens_Same N]
noncomputable abbrev b_lodgelaw9_ConvPads : Code := (Go.Proofs.Tryd.f7.body).getD .skip

abbrev h_lodgelaw9_ConvPads_0 : List Slot := [.data (.int .i64), .data (.int .i64), .dead, .data (.int .i64), .dead, .data (.int .i64), .dead, .dead, .dead, .dead, .dead, .dead, .dead, .dead, .box [.d (.st (.pair (.st (.pair (.sl (.int .i64)) .bool)) (.sl (.int .i64))))], .box [.d (.st (.pair (.st (.pair (.sl (.int .i64)) .bool)) (.sl (.int .i64))))], .box [.d (.sl (.int .i64)), .d .bool, .sl (.int .i64)], .data .err, .box [.d (.sl (.int .i64)), .d .bool, .sl (.int .i64)], .data (.int .i64), .dead, .dead, .dead, .dead, .dead, .dead, .dead, .dead, .dead, .dead, .dead, .dead, .dead, .dead, .dead, .dead, .dead, .dead, .dead, .dead, .dead, .dead, .dead, .dead, .dead, .dead, .dead, .dead, .dead, .dead, .dead, .dead, .dead, .dead, .dead, .dead, .dead, .dead, .dead, .dead, .dead, .dead, .dead, .dead, .dead, .dead, .dead, .dead, .dead, .dead, .dead, .dead, .dead, .dead, .dead, .dead, .dead, .dead, .dead, .dead, .dead, .dead, .dead, .dead, .dead, .dead, .dead, .dead, .dead, .dead, .dead, .dead, .dead, .dead, .dead, .dead, .dead, .dead, .dead, .dead, .dead, .dead, .dead, .dead, .dead, .dead, .dead, .dead, .dead, .dead, .dead, .dead, .dead, .dead, .dead, .dead, .dead, .dead, .dead, .dead, .dead, .dead, .dead, .dead, .dead, .dead, .dead, .dead, .dead, .dead, .dead, .dead, .dead, .dead, .dead, .dead, .dead, .dead, .dead, .dead, .dead, .dead, .dead, .dead, .dead, .dead, .dead, .dead, .dead, .dead, .dead, .dead, .dead, .dead, .dead, .dead, .dead, .dead, .dead, .dead]
abbrev e_lodgelaw9_ConvPads_0 : List (AX × List Slot) := [(AX.exit 0, [.dead, .dead, .dead, .dead, .dead, .data (.int .i64), .dead, .dead, .dead, .dead, .dead, .dead, .dead, .dead, .dead, .box [.d (.st (.pair (.st (.pair (.sl (.int .i64)) .bool)) (.sl (.int .i64))))], .box [.d (.sl (.int .i64)), .d .bool, .sl (.int .i64)], .data .err, .box [.d (.sl (.int .i64)), .d .bool, .sl (.int .i64)], .dead, .dead, .dead, .dead, .dead, .dead, .dead, .dead, .dead, .dead, .dead, .dead, .dead, .dead, .dead, .dead, .dead, .dead, .dead, .dead, .dead, .dead, .dead, .dead, .dead, .dead, .dead, .dead, .dead, .dead, .dead, .dead, .dead, .dead, .dead, .dead, .dead, .dead, .dead, .dead, .dead, .dead, .dead, .dead, .dead, .dead, .dead, .dead, .dead, .dead, .dead, .dead, .dead, .dead, .dead, .dead, .dead, .dead, .dead, .dead, .dead, .dead, .dead, .dead, .dead, .dead, .dead, .dead, .dead, .dead, .dead, .dead, .dead, .dead, .dead, .dead, .dead, .dead, .dead, .dead, .dead, .dead, .dead, .dead, .dead, .dead, .dead, .dead, .dead, .dead, .dead, .dead, .dead, .dead, .dead, .dead, .dead, .dead, .dead, .dead, .dead, .dead, .dead, .dead, .dead, .dead, .dead, .dead, .dead, .dead, .dead, .dead, .dead, .dead, .dead, .dead, .dead, .dead, .dead, .dead, .dead, .dead, .dead, .dead, .dead, .dead, .dead, .dead, .dead, .dead, .dead, .dead, .dead, .dead, .dead, .dead, .dead, .dead, .dead, .dead, .dead])]
def g_lodgelaw9_ConvPads_0 (N : Nat) : Nat → Int → Int → Int → Int → (((List Int × Bool) × List Int) × Unit) → (((List Int × Bool) × List Int) × Unit) → (List Int × (Bool × (List Int × Unit))) → Er → (List Int × (Bool × (List Int × Unit))) → Int → Option (Int × ((((List Int × Bool) × List Int) × Unit) × ((List Int × (Bool × (List Int × Unit))) × (Er × ((List Int × (Bool × (List Int × Unit))) × Unit)))))
  | 0, _, _, _, _, _, _, _, _, _, _ => none
  | n + 1, h_0, w_1, pad_3, za_5, a_14, r_15, t_16, e_17, big_18, i_19 =>
    cond (decide (i_19 < (Nat.cast (List.length (((big_18).2).2).1) : Int)))
      (
      cond (decide (@Ne Int (wi64 (w_1 + (wi64 ((2 : Int) * pad_3)))) (0 : Int)))
        (
        cond (decide (@Ne Int (wi64 (w_1 + (wi64 ((2 : Int) * pad_3)))) (0 : Int)))
          (
          cond (decide ((0 : Int) ≤ i_19))
            (
            cond (decide ((Int.toNat i_19) < (List.length (((big_18).2).2).1)))
              (
              cond (decide (((0 : Nat) + (Int.toNat i_19)) < (List.length (((big_18).2).2).1)))
                (
                cond (decide ((0 : Int) ≤ (wi64 ((wi64 (Int.tdiv i_19 (wi64 (w_1 + (wi64 ((2 : Int) * pad_3)))))) - pad_3))))
                  (
                  cond (decide ((0 : Int) ≤ (wi64 ((Int.tmod i_19 (wi64 (w_1 + (wi64 ((2 : Int) * pad_3))))) - pad_3))))
                    (
                    cond (decide ((wi64 ((wi64 (Int.tdiv i_19 (wi64 (w_1 + (wi64 ((2 : Int) * pad_3)))))) - pad_3)) < h_0))
                      (
                      cond (decide ((wi64 ((Int.tmod i_19 (wi64 (w_1 + (wi64 ((2 : Int) * pad_3))))) - pad_3)) < w_1))
                        (
                        cond (decide ((0 : Int) ≤ (wi64 ((wi64 ((wi64 ((wi64 (Int.tdiv i_19 (wi64 (w_1 + (wi64 ((2 : Int) * pad_3)))))) - pad_3)) * w_1)) + (wi64 ((Int.tmod i_19 (wi64 (w_1 + (wi64 ((2 : Int) * pad_3))))) - pad_3))))))
                          (
                          cond (decide ((Int.toNat (wi64 ((wi64 ((wi64 ((wi64 (Int.tdiv i_19 (wi64 (w_1 + (wi64 ((2 : Int) * pad_3)))))) - pad_3)) * w_1)) + (wi64 ((Int.tmod i_19 (wi64 (w_1 + (wi64 ((2 : Int) * pad_3))))) - pad_3))))) < (List.length ((a_14).1).2)))
                            (
                            cond (decide ((0 : Int) ≤ i_19))
                              (
                              cond (decide ((Int.toNat i_19) < (List.length (((big_18).2).2).1)))
                                (
                                cond (decide (((0 : Nat) + (Int.toNat i_19)) < (List.length (List.set (((big_18).2).2).1 ((0 : Nat) + (Int.toNat i_19)) za_5))))
                                  (
                                  cond (decide ((List.length (((t_16).2).2).1) = (List.length (((t_16).2).2).1)))
                                    (
                                    cond (decide ((List.length (((big_18).2).2).1) = (List.length (List.set (List.set (((big_18).2).2).1 ((0 : Nat) + (Int.toNat i_19)) za_5) ((0 : Nat) + (Int.toNat i_19)) (List.getD ((a_14).1).2 (Int.toNat (wi64 ((wi64 ((wi64 ((wi64 (Int.tdiv i_19 (wi64 (w_1 + (wi64 ((2 : Int) * pad_3)))))) - pad_3)) * w_1)) + (wi64 ((Int.tmod i_19 (wi64 (w_1 + (wi64 ((2 : Int) * pad_3))))) - pad_3))))) (0 : Int))))))
                                      (
                                      (g_lodgelaw9_ConvPads_0 N n h_0 w_1 pad_3 za_5 a_14 r_15 t_16 e_17 ((big_18).1, (((big_18).2).1, ((List.set (List.set (((big_18).2).2).1 ((0 : Nat) + (Int.toNat i_19)) za_5) ((0 : Nat) + (Int.toNat i_19)) (List.getD ((a_14).1).2 (Int.toNat (wi64 ((wi64 ((wi64 ((wi64 (Int.tdiv i_19 (wi64 (w_1 + (wi64 ((2 : Int) * pad_3)))))) - pad_3)) * w_1)) + (wi64 ((Int.tmod i_19 (wi64 (w_1 + (wi64 ((2 : Int) * pad_3))))) - pad_3))))) (0 : Int))), ()))) (wi64 (i_19 + (1 : Int)))))
                                      (
                                      none))
                                    (
                                    none))
                                  (
                                  none))
                                (
                                none))
                              (
                              none))
                            (
                            none))
                          (
                          none))
                        (
                        cond (decide ((List.length (((t_16).2).2).1) = (List.length (((t_16).2).2).1)))
                          (
                          cond (decide ((List.length (((big_18).2).2).1) = (List.length (List.set (((big_18).2).2).1 ((0 : Nat) + (Int.toNat i_19)) za_5))))
                            (
                            (g_lodgelaw9_ConvPads_0 N n h_0 w_1 pad_3 za_5 a_14 r_15 t_16 e_17 ((big_18).1, (((big_18).2).1, ((List.set (((big_18).2).2).1 ((0 : Nat) + (Int.toNat i_19)) za_5), ()))) (wi64 (i_19 + (1 : Int)))))
                            (
                            none))
                          (
                          none)))
                      (
                      cond (decide ((List.length (((t_16).2).2).1) = (List.length (((t_16).2).2).1)))
                        (
                        cond (decide ((List.length (((big_18).2).2).1) = (List.length (List.set (((big_18).2).2).1 ((0 : Nat) + (Int.toNat i_19)) za_5))))
                          (
                          (g_lodgelaw9_ConvPads_0 N n h_0 w_1 pad_3 za_5 a_14 r_15 t_16 e_17 ((big_18).1, (((big_18).2).1, ((List.set (((big_18).2).2).1 ((0 : Nat) + (Int.toNat i_19)) za_5), ()))) (wi64 (i_19 + (1 : Int)))))
                          (
                          none))
                        (
                        none)))
                    (
                    cond (decide ((List.length (((t_16).2).2).1) = (List.length (((t_16).2).2).1)))
                      (
                      cond (decide ((List.length (((big_18).2).2).1) = (List.length (List.set (((big_18).2).2).1 ((0 : Nat) + (Int.toNat i_19)) za_5))))
                        (
                        (g_lodgelaw9_ConvPads_0 N n h_0 w_1 pad_3 za_5 a_14 r_15 t_16 e_17 ((big_18).1, (((big_18).2).1, ((List.set (((big_18).2).2).1 ((0 : Nat) + (Int.toNat i_19)) za_5), ()))) (wi64 (i_19 + (1 : Int)))))
                        (
                        none))
                      (
                      none)))
                  (
                  cond (decide ((List.length (((t_16).2).2).1) = (List.length (((t_16).2).2).1)))
                    (
                    cond (decide ((List.length (((big_18).2).2).1) = (List.length (List.set (((big_18).2).2).1 ((0 : Nat) + (Int.toNat i_19)) za_5))))
                      (
                      (g_lodgelaw9_ConvPads_0 N n h_0 w_1 pad_3 za_5 a_14 r_15 t_16 e_17 ((big_18).1, (((big_18).2).1, ((List.set (((big_18).2).2).1 ((0 : Nat) + (Int.toNat i_19)) za_5), ()))) (wi64 (i_19 + (1 : Int)))))
                      (
                      none))
                    (
                    none)))
                (
                none))
              (
              none))
            (
            none))
          (
          none))
        (
        none))
      (
      cond (decide ((List.length (((t_16).2).2).1) = (List.length (((t_16).2).2).1)))
        (
        cond (decide ((List.length (((big_18).2).2).1) = (List.length (((big_18).2).2).1)))
          (
          some (za_5, (r_15, (t_16, (e_17, (big_18, ()))))))
          (
          none))
        (
        none))

def F_lodgelaw9_ConvPads (N : Nat) (h_0 : Int) (w_1 : Int) (k_2 : Int) (pad_3 : Int) (l_4 : List Int) (za_5 : Int) : Option (Bool × Unit) :=
  Option.bind (F_lodgelaw9_first N) fun y0 =>
  cond (Bool.not (y0).1)
    (
    some (false, ()))
    (
    cond (decide ((30 : Int) < (Nat.cast (List.length l_4) : Int)))
      (
      some y0)
      (
      cond (Bool.not (y0).1)
        (
        some y0)
        (
        Option.bind (F_lodgeworld_Number N h_0 (5 : Int)) fun y1 =>
        Option.bind (F_lodgeworld_Number N w_1 (5 : Int)) fun y2 =>
        Option.bind (F_lodgeworld_Number N k_2 (Go.Eng.imin (wi64 ((y1).1 + (1 : Int))) (wi64 ((y2).1 + (1 : Int))))) fun y3 =>
        Option.bind (F_lodgeworld_Number N pad_3 (4 : Int)) fun y4 =>
        Option.bind (F_lodgeworld_Number N za_5 (256 : Int)) fun y5 =>
        Option.bind (F_lodgelaw9_tensor N ((wi64 ((y1).1 + (1 : Int))) :: ((wi64 ((y2).1 + (1 : Int))) :: ((1 : Int) :: ([] : List Int)))) l_4) fun y6 =>
        Option.bind (F_lodgeref_Ints N l_4) fun y7 =>
        cond (decide (((0 : Nat) + (List.length (y7).1)) = (List.length (y7).1)))
          (
          cond (decide ((((List.length (y7).1) + 1) * (8 + (1 : Nat))) ≤ Go.Eng.most))
            (
            cond (decide (((0 : Nat) + ((List.length (y7).1) + 1)) ≤ (List.length ((List.take (List.length (y7).1) (y7).1) ++ ((3 : Int) :: ([] : List Int))))))
              (
              Option.bind (F_lodgelaw9_tensor N ((wi64 ((y3).1 + (1 : Int))) :: ((wi64 ((y3).1 + (1 : Int))) :: ((1 : Int) :: ((1 : Int) :: ([] : List Int))))) (List.take ((List.length (y7).1) + 1) ((List.take (List.length (y7).1) (y7).1) ++ ((3 : Int) :: ([] : List Int))))) fun y8 =>
              cond (decide (((0 : Nat) + (List.length ((((y6).1).2).2).1)) ≤ (List.length ((((y6).1).2).2).1)))
                (
                cond (decide (((0 : Nat) + (List.length ((((y8).1).2).2).1)) ≤ (List.length ((((y8).1).2).2).1)))
                  (
                  Option.bind (F_conv_Do N ((((y6).1).1, (((y6).1).2).1), (List.take (List.length ((((y6).1).2).2).1) ((((y6).1).2).2).1)) ((((y8).1).1, (((y8).1).2).1), (List.take (List.length ((((y8).1).2).2).1) ((((y8).1).2).2).1)) ((1 : Int) :: ((y4).1 :: ((wi64 ((y5).1 - (128 : Int))) :: ([] : List Int))))) fun y9 =>
                  Option.bind (F_lodgelaw9_tensor N ((wi64 ((wi64 ((y1).1 + (1 : Int))) + (wi64 ((2 : Int) * (y4).1)))) :: ((wi64 ((wi64 ((y2).1 + (1 : Int))) + (wi64 ((2 : Int) * (y4).1)))) :: ((1 : Int) :: ([] : List Int)))) ([] : List Int)) fun y10 =>
                  cond (decide (((0 : Nat) + (List.length ((((y6).1).2).2).1)) ≤ (List.length ((((y6).1).2).2).1)))
                    (
                    cond (decide (((0 : Nat) + (List.length ((((y8).1).2).2).1)) ≤ (List.length ((((y8).1).2).2).1)))
                      (
                      cond (decide (((0 : Nat) + (List.length ((((y6).1).2).2).1)) ≤ (List.length ((((y6).1).2).2).1)))
                        (
                        cond (decide (((0 : Nat) + (List.length ((((y8).1).2).2).1)) ≤ (List.length ((((y8).1).2).2).1)))
                          (
                          cond (decide ((List.length ((((y9).1).2).2).1) = (List.length ((((y9).1).2).2).1)))
                            (
                            cond (decide ((List.length ((((y10).1).2).2).1) = (List.length ((((y10).1).2).2).1)))
                              (
                              Option.bind (g_lodgelaw9_ConvPads_0 N N (wi64 ((y1).1 + (1 : Int))) (wi64 ((y2).1 + (1 : Int))) (y4).1 (wi64 ((y5).1 - (128 : Int))) (((((y6).1).1, (((y6).1).2).1), (List.take (List.length ((((y6).1).2).2).1) ((((y6).1).2).2).1)), ()) (((((y8).1).1, (((y8).1).2).1), (List.take (List.length ((((y8).1).2).2).1) ((((y8).1).2).2).1)), ()) (y9).1 ((y9).2).1 (y10).1 (0 : Int)) fun y11 =>
                              cond (decide (((0 : Nat) + (List.length ((((((((y11).2).2).2).2).1).2).2).1)) ≤ (List.length ((((((((y11).2).2).2).2).1).2).2).1)))
                                (
                                Option.bind (F_conv_Do N ((((((((y11).2).2).2).2).1).1, (((((((y11).2).2).2).2).1).2).1), (List.take (List.length ((((((((y11).2).2).2).2).1).2).2).1) ((((((((y11).2).2).2).2).1).2).2).1)) (((y11).2).1).1 ((1 : Int) :: ((0 : Int) :: ((y11).1 :: ([] : List Int))))) fun y12 =>
                                cond (Go.Eng.Er.isNil ((((y11).2).2).2).1)
                                  (
                                  cond (Go.Eng.Er.isNil ((y12).2).1)
                                    (
                                    cond (decide (((0 : Nat) + (List.length ((((((y11).2).2).1).2).2).1)) ≤ (List.length ((((((y11).2).2).1).2).2).1)))
                                      (
                                      cond (decide (((0 : Nat) + (List.length ((((y12).1).2).2).1)) ≤ (List.length ((((y12).1).2).2).1)))
                                        (
                                        Option.bind (F_tens_Same N ((((((y11).2).2).1).1, (((((y11).2).2).1).2).1), (List.take (List.length ((((((y11).2).2).1).2).2).1) ((((((y11).2).2).1).2).2).1)) ((((y12).1).1, (((y12).1).2).1), (List.take (List.length ((((y12).1).2).2).1) ((((y12).1).2).2).1))) fun y13 =>
                                        some y13)
                                        (
                                        none))
                                      (
                                      none))
                                    (
                                    some (false, ())))
                                  (
                                  some (false, ())))
                                (
                                none))
                              (
                              none))
                            (
                            none))
                          (
                          none))
                        (
                        none))
                      (
                      none))
                    (
                    none))
                  (
                  none))
                (
                none))
              (
              none))
            (
            none))
          (
          none))))

abbrev c_lodgelaw9_ConvPads (N : Nat) : CallSpec := ⟨7, ps_lodgelaw9_ConvPads, rs_lodgelaw9_ConvPads, fun x => F_lodgelaw9_ConvPads N x.1 x.2.1 x.2.2.1 x.2.2.2.1 x.2.2.2.2.1 x.2.2.2.2.2.1⟩
abbrev l_lodgelaw9_ConvPads_0 (N : Nat) : LoopSpec := ⟨0, h_lodgelaw9_ConvPads_0, e_lodgelaw9_ConvPads_0, fun x => g_lodgelaw9_ConvPads_0 N N x.1 x.2.1 x.2.2.1 x.2.2.2.1 x.2.2.2.2.1 x.2.2.2.2.2.1 x.2.2.2.2.2.2.1 x.2.2.2.2.2.2.2.1 x.2.2.2.2.2.2.2.2.1 x.2.2.2.2.2.2.2.2.2.1⟩

theorem cs_lodgelaw9_ConvPads_ok (S : Nat → Addr) (N : Nat) : CallsOK Go.Proofs.Tryd.prog E S (cs_lodgelaw9_ConvPads N) :=
  .cons (F_conv_Do_ok S N) (.cons (F_lodgelaw9_first_ok S N) (.cons (F_lodgeworld_Number_ok S N) (.cons (F_lodgelaw9_tensor_ok S N) (.cons (F_lodgeref_Ints_ok S N) (.cons (F_tens_Same_ok S N) (.nil))))))
noncomputable abbrev b_lodgelaw9_ConvPads_0 : Code := (loopsOf b_lodgelaw9_ConvPads).getD 0 .skip
theorem g_lodgelaw9_ConvPads_0_ok (S : Nat → Addr) (N : Nat) : ∀ n x y, (fun (x : Val (slotsTy h_lodgelaw9_ConvPads_0)) => g_lodgelaw9_ConvPads_0 N n x.1 x.2.1 x.2.2.1 x.2.2.2.1 x.2.2.2.2.1 x.2.2.2.2.2.1 x.2.2.2.2.2.2.1 x.2.2.2.2.2.2.2.1 x.2.2.2.2.2.2.2.2.1 x.2.2.2.2.2.2.2.2.2.1) x = some y → LoopCon Go.Proofs.Tryd.prog E S b_lodgelaw9_ConvPads_0 (encSlots h_lodgelaw9_ConvPads_0 x) (encEx e_lodgelaw9_ConvPads_0 y).1 (encEx e_lodgelaw9_ConvPads_0 y).2 :=
  loop_spec E_ok mixed (cs_lodgelaw9_ConvPads_ok S N) (all := loopsOf b_lodgelaw9_ConvPads) (ls := []) (.nil) (i := 0) (by kernel_rfl) (inner_of (by kernel_rfl)) (head := h_lodgelaw9_ConvPads_0) (ex := e_lodgelaw9_ConvPads_0) (fun n (x : Val (slotsTy h_lodgelaw9_ConvPads_0)) => g_lodgelaw9_ConvPads_0 N n x.1 x.2.1 x.2.2.1 x.2.2.2.1 x.2.2.2.2.1 x.2.2.2.2.2.1 x.2.2.2.2.2.2.1 x.2.2.2.2.2.2.2.1 x.2.2.2.2.2.2.2.2.1 x.2.2.2.2.2.2.2.2.2.1) (fun _ => rfl) (fun n x => by kernel_rfl)
theorem F_lodgelaw9_ConvPads_ok (S : Nat → Addr) (N : Nat) : ∀ x y, (c_lodgelaw9_ConvPads N).g x = some y → FCon Go.Proofs.Tryd.prog E S 7 ps_lodgelaw9_ConvPads rs_lodgelaw9_ConvPads x y := by
  intro x y h
  exact fun_spec E_ok mixed (cs_lodgelaw9_ConvPads_ok S N) (f := 7) (fi := ⟨b_lodgelaw9_ConvPads, 160, Go.Proofs.Tryd.f7.results.toList⟩) (by kernel_rfl) (ls := [l_lodgelaw9_ConvPads_0 N]) (.cons (by kernel_rfl) (g_lodgelaw9_ConvPads_0_ok S N N) (.nil)) (by kernel_rfl) (ps := ps_lodgelaw9_ConvPads) (rs := rs_lodgelaw9_ConvPads) (Eq.trans (b := F_lodgelaw9_ConvPads N x.1 x.2.1 x.2.2.1 x.2.2.2.1 x.2.2.2.2.1 x.2.2.2.2.2.1) (by kernel_rfl) h)

/-! slices.Clone[[]int,int] -/

abbrev ps_slices_Clone_int_int : List Ty := [(.sl (.int .i64))]
abbrev rs_slices_Clone_int_int : List Slot := [.sl (.int .i64)]
abbrev cs_slices_Clone_int_int (N : Nat) : List CallSpec := []
noncomputable abbrev b_slices_Clone_int_int : Code := (Go.Proofs.Tryd.f56.body).getD .skip

def F_slices_Clone_int_int (N : Nat) (s_0 : List Int) : Option (List Int × Unit) :=
  cond (decide ((((0 : Nat) + (List.length s_0)) * (8 + (1 : Nat))) ≤ Go.Eng.most))
    (
    cond (decide (((0 : Nat) + (List.length s_0)) = (List.length (([] : List Int) ++ s_0))))
      (
      some ((([] : List Int) ++ s_0), ()))
      (
      none))
    (
    none)

abbrev c_slices_Clone_int_int (N : Nat) : CallSpec := ⟨56, ps_slices_Clone_int_int, rs_slices_Clone_int_int, fun x => F_slices_Clone_int_int N x.1⟩

theorem cs_slices_Clone_int_int_ok (S : Nat → Addr) (N : Nat) : CallsOK Go.Proofs.Tryd.prog E S (cs_slices_Clone_int_int N) :=
  .nil
theorem F_slices_Clone_int_int_ok (S : Nat → Addr) (N : Nat) : ∀ x y, (c_slices_Clone_int_int N).g x = some y → FCon Go.Proofs.Tryd.prog E S 56 ps_slices_Clone_int_int rs_slices_Clone_int_int x y := by
  intro x y h
  exact nil_spec E_ok mixed (f := 56) (fi := ⟨b_slices_Clone_int_int, 8, Go.Proofs.Tryd.f56.results.toList⟩) (by kernel_rfl) (by kernel_rfl) (t := (.int .i64)) (l := x.1) (rs := rs_slices_Clone_int_int) (y := y) (Eq.trans (b := F_slices_Clone_int_int N x.1) (by kernel_rfl) h) (fun hl => by
    have h' : F_slices_Clone_int_int N x.1 = some y := h
    rw [hl] at h'
    exact (show funKA E [] [] ⟨b_slices_Clone_int_int, 8, Go.Proofs.Tryd.f56.results.toList⟩ [.v (.slice none 0 0)] rs_slices_Clone_int_int = some ([], ()) by kernel_rfl).trans ((show F_slices_Clone_int_int N [] = some ([], ()) by kernel_rfl).symm.trans h'))

/-! lodge/shape.Clone -/

abbrev ps_shape_Clone : List Ty := [(.st (.pair (.sl (.int .i64)) .bool))]
abbrev rs_shape_Clone : List Slot := [.ag [.sl (.int .i64), .d .bool]]
abbrev cs_shape_Clone (N : Nat) : List CallSpec := [c_slices_Clone_int_int N]
noncomputable abbrev b_shape_Clone : Code := (Go.Proofs.Tryd.f55.body).getD .skip

def F_shape_Clone (N : Nat) (d_0 : (List Int × Bool)) : Option ((List Int × (Bool × Unit)) × Unit) :=
  Option.bind (F_slices_Clone_int_int N (d_0).1) fun y0 =>
  cond (decide ((List.length (y0).1) = (List.length (y0).1)))
    (
    some (((y0).1, ((d_0).2, ())), ()))
    (
    none)

abbrev c_shape_Clone (N : Nat) : CallSpec := ⟨55, ps_shape_Clone, rs_shape_Clone, fun x => F_shape_Clone N x.1⟩

theorem cs_shape_Clone_ok (S : Nat → Addr) (N : Nat) : CallsOK Go.Proofs.Tryd.prog E S (cs_shape_Clone N) :=
  .cons (F_slices_Clone_int_int_ok S N) (.nil)
theorem F_shape_Clone_ok (S : Nat → Addr) (N : Nat) : ∀ x y, (c_shape_Clone N).g x = some y → FCon Go.Proofs.Tryd.prog E S 55 ps_shape_Clone rs_shape_Clone x y := by
  intro x y h
  exact fun_spec E_ok mixed (cs_shape_Clone_ok S N) (f := 55) (fi := ⟨b_shape_Clone, 9, Go.Proofs.Tryd.f55.results.toList⟩) (by kernel_rfl) (ls := []) (.nil) (by kernel_rfl) (ps := ps_shape_Clone) (rs := rs_shape_Clone) (Eq.trans (b := F_shape_Clone N x.1) (by kernel_rfl) h)

/-! lodge/tens.Clone -/

abbrev ps_tens_Clone : List Ty := [(.st (.pair (.st (.pair (.sl (.int .i64)) .bool)) (.sl (.int .i64))))]
abbrev rs_tens_Clone : List Slot := [.ag [.sl (.int .i64), .d .bool, .sl (.int .i64)]]
abbrev cs_tens_Clone (N : Nat) : List CallSpec := [c_slices_Clone_int_int N, c_shape_Clone N]
noncomputable abbrev b_tens_Clone : Code := (Go.Proofs.Tryd.f28.body).getD .skip

def F_tens_Clone (N : Nat) (t_0 : ((List Int × Bool) × List Int)) : Option ((List Int × (Bool × (List Int × Unit))) × Unit) :=
  Option.bind (F_shape_Clone N (t_0).1) fun y0 =>
  Option.bind (F_slices_Clone_int_int N (t_0).2) fun y1 =>
  cond (decide ((List.length ((y0).1).1) = (List.length ((y0).1).1)))
    (
    cond (decide ((List.length (y1).1) = (List.length (y1).1)))
      (
      some ((((y0).1).1, ((((y0).1).2).1, y1)), ()))
      (
      none))
    (
    none)

abbrev c_tens_Clone (N : Nat) : CallSpec := ⟨28, ps_tens_Clone, rs_tens_Clone, fun x => F_tens_Clone N x.1⟩

theorem cs_tens_Clone_ok (S : Nat → Addr) (N : Nat) : CallsOK Go.Proofs.Tryd.prog E S (cs_tens_Clone N) :=
  .cons (F_slices_Clone_int_int_ok S N) (.cons (F_shape_Clone_ok S N) (.nil))
theorem F_tens_Clone_ok (S : Nat → Addr) (N : Nat) : ∀ x y, (c_tens_Clone N).g x = some y → FCon Go.Proofs.Tryd.prog E S 28 ps_tens_Clone rs_tens_Clone x y := by
  intro x y h
  exact fun_spec E_ok mixed (cs_tens_Clone_ok S N) (f := 28) (fi := ⟨b_tens_Clone, 10, Go.Proofs.Tryd.f28.results.toList⟩) (by kernel_rfl) (ls := []) (.nil) (by kernel_rfl) (ps := ps_tens_Clone) (rs := rs_tens_Clone) (Eq.trans (b := F_tens_Clone N x.1) (by kernel_rfl) h)

/-! lodge/mat.narrow -/

abbrev ps_mat_narrow : List Ty := [(.int .i64)]
abbrev rs_mat_narrow : List Slot := [.data .bool]
abbrev cs_mat_narrow (N : Nat) : List CallSpec := [c_tens_Narrow N]
noncomputable abbrev b_mat_narrow : Code := (Go.Proofs.Tryd.f84.body).getD .skip

def F_mat_narrow (N : Nat) (n_0 : Int) : Option (Bool × Unit) :=
  Option.bind (F_tens_Narrow N n_0) fun y0 =>
  some ((decide ((y0).1 = n_0)), ())

abbrev c_mat_narrow (N : Nat) : CallSpec := ⟨84, ps_mat_narrow, rs_mat_narrow, fun x => F_mat_narrow N x.1⟩

theorem cs_mat_narrow_ok (S : Nat → Addr) (N : Nat) : CallsOK Go.Proofs.Tryd.prog E S (cs_mat_narrow N) :=
  .cons (F_tens_Narrow_ok S N) (.nil)
theorem F_mat_narrow_ok (S : Nat → Addr) (N : Nat) : ∀ x y, (c_mat_narrow N).g x = some y → FCon Go.Proofs.Tryd.prog E S 84 ps_mat_narrow rs_mat_narrow x y := by
  intro x y h
  exact fun_spec E_ok mixed (cs_mat_narrow_ok S N) (f := 84) (fi := ⟨b_mat_narrow, 7, Go.Proofs.Tryd.f84.results.toList⟩) (by kernel_rfl) (ls := []) (.nil) (by kernel_rfl) (ps := ps_mat_narrow) (rs := rs_mat_narrow) (Eq.trans (b := F_mat_narrow N x.1) (by kernel_rfl) h)

/-! lodge/mat.Result -/

abbrev ps_mat_Result : List Ty := [(.int .i64), (.int .i64), (.st (.pair (.sl (.int .i64)) .bool)), (.st (.pair (.sl (.int .i64)) .bool))]
abbrev rs_mat_Result : List Slot := [.data (.st (.pair (.sl (.int .i64)) .bool)), .data .err]
abbrev cs_mat_Result (N : Nat) : List CallSpec := [c_shape_Valid N, c_mat_narrow N]
noncomputable abbrev b_mat_Result : Code := (Go.Proofs.Tryd.f77.body).getD .skip

abbrev h_mat_Result_0 : List Slot := [.data (.int .i64), .data (.int .i64), .dead, .dead, .dead, .dead, .box [.d (.st (.pair (.sl (.int .i64)) .bool))], .box [.d (.st (.pair (.sl (.int .i64)) .bool))], .box [.sl (.int .i64), .d .bool], .dead, .dead, .dead, .dead, .dead, .dead, .dead, .dead, .sl (.st (.pair (.sl (.int .i64)) .bool)), .data (.int .i64), .data (.int .i64), .dead, .dead, .dead, .dead, .dead, .dead, .dead, .dead, .dead, .dead, .dead, .dead, .dead, .dead, .dead, .dead, .dead, .dead, .dead, .dead, .dead, .dead, .dead, .dead, .dead, .dead, .dead, .dead, .dead, .dead, .dead, .dead, .dead, .dead, .dead, .dead, .dead, .dead, .dead, .dead, .dead, .dead, .dead, .dead, .dead, .dead, .dead, .dead, .dead, .dead, .dead, .dead, .dead, .dead, .dead, .dead, .dead, .dead, .dead, .dead, .dead, .dead, .dead, .dead, .dead, .dead, .dead, .dead]
abbrev e_mat_Result_0 : List (AX × List Slot) := [(AX.exit 0, [.data (.int .i64), .data (.int .i64), .dead, .dead, .dead, .dead, .box [.d (.st (.pair (.sl (.int .i64)) .bool))], .box [.d (.st (.pair (.sl (.int .i64)) .bool))], .box [.sl (.int .i64), .d .bool], .dead, .dead, .dead, .dead, .dead, .dead, .dead, .dead, .dead, .dead, .dead, .dead, .dead, .dead, .dead, .dead, .dead, .dead, .dead, .dead, .dead, .dead, .dead, .dead, .dead, .dead, .dead, .dead, .dead, .dead, .dead, .dead, .dead, .dead, .dead, .dead, .dead, .dead, .dead, .dead, .dead, .dead, .dead, .dead, .dead, .dead, .dead, .dead, .dead, .dead, .dead, .dead, .dead, .dead, .dead, .dead, .dead, .dead, .dead, .dead, .dead, .dead, .dead, .dead, .dead, .dead, .dead, .dead, .dead, .dead, .dead, .dead, .dead, .dead, .dead, .dead, .dead, .dead, .dead]), (AX.ret, [.dead, .dead, .dead, .dead, .dead, .dead, .dead, .dead, .box [.sl (.int .i64), .d .bool], .data .err, .dead, .dead, .dead, .dead, .dead, .dead, .dead, .dead, .dead, .dead, .dead, .dead, .dead, .dead, .dead, .dead, .dead, .dead, .dead, .dead, .dead, .dead, .dead, .dead, .dead, .dead, .dead, .dead, .dead, .dead, .dead, .dead, .dead, .dead, .dead, .dead, .dead, .dead, .dead, .dead, .dead, .dead, .dead, .dead, .dead, .dead, .dead, .dead, .dead, .dead, .dead, .dead, .dead, .dead, .dead, .dead, .dead, .dead, .dead, .dead, .dead, .dead, .dead, .dead, .dead, .dead, .dead, .dead, .dead, .dead, .dead, .dead, .dead, .dead, .dead, .dead, .dead, .dead])]
def g_mat_Result_0 (N : Nat) : Nat → Int → Int → ((List Int × Bool) × Unit) → ((List Int × Bool) × Unit) → (List Int × (Bool × Unit)) → List ((List Int × Bool)) → Int → Int → Option (Sum (Int × (Int × (((List Int × Bool) × Unit) × (((List Int × Bool) × Unit) × ((List Int × (Bool × Unit)) × Unit))))) ((List Int × (Bool × Unit)) × (Er × Unit)))
  | 0, _, _, _, _, _, _, _, _ => none
  | n + 1, za_0, zb_1, a_6, b_7, t_8, t_17, t_18, t_19 =>
    cond (decide (t_19 < t_18))
      (
      cond (decide ((0 : Int) ≤ t_19))
        (
        cond (decide ((Int.toNat t_19) < (List.length t_17)))
          (
          cond (decide (((0 : Nat) + (Int.toNat t_19)) < (List.length t_17)))
            (
            Option.bind (F_shape_Valid N (List.getD t_17 ((0 : Nat) + (Int.toNat t_19)) (([] : List Int), false))) fun y1 =>
            cond (Bool.not (Go.Eng.Er.isNil (y1).1))
              (
              some (Sum.inr ((([] : List Int), (false, ())), y1)))
              (
              cond (decide ((List.length (t_8).1) = (List.length (t_8).1)))
                (
                cond (decide ((List.length t_17) = (List.length t_17)))
                  (
                  (g_mat_Result_0 N n za_0 zb_1 a_6 b_7 t_8 t_17 t_18 (wi64 (t_19 + (1 : Int)))))
                  (
                  none))
                (
                none)))
            (
            none))
          (
          none))
        (
        none))
      (
      cond (decide ((List.length (t_8).1) = (List.length (t_8).1)))
        (
        some (Sum.inl (za_0, (zb_1, (a_6, (b_7, (t_8, ())))))))
        (
        none))

def F_mat_Result (N : Nat) (za_0 : Int) (zb_1 : Int) (a_2 : (List Int × Bool)) (b_3 : (List Int × Bool)) : Option ((List Int × Bool) × (Er × Unit)) :=
  Option.bind (g_mat_Result_0 N N za_0 zb_1 (a_2, ()) (b_3, ()) (([] : List Int), (false, ())) (a_2 :: (b_3 :: ([] : List ((List Int) × Bool)))) (Nat.cast (2 : Nat) : Int) (0 : Int)) fun y0 =>
  Sum.elim (fun y1 =>
    cond (decide (@Ne Int (Nat.cast (List.length (((((y1).2).2).1).1).1) : Int) (2 : Int)))
      (
      some ((([] : List Int), false), ((Go.Eng.Er.s ErrShape), ())))
      (
      cond (decide (@Ne Int (Nat.cast (List.length ((((((y1).2).2).2).1).1).1) : Int) (2 : Int)))
        (
        some ((([] : List Int), false), ((Go.Eng.Er.s ErrShape), ())))
        (
        cond (decide (1 < (List.length (((((y1).2).2).1).1).1)))
          (
          cond (decide (0 < (List.length ((((((y1).2).2).2).1).1).1)))
            (
            cond (decide (@Ne Int (List.getD (((((y1).2).2).1).1).1 1 (0 : Int)) (List.getD ((((((y1).2).2).2).1).1).1 0 (0 : Int))))
              (
              some ((([] : List Int), false), ((Go.Eng.Er.s ErrShape), ())))
              (
              cond (((((y1).2).2).1).1).2
                (
                some ((([] : List Int), false), ((Go.Eng.Er.s ErrShape), ())))
                (
                cond ((((((y1).2).2).2).1).1).2
                  (
                  some ((([] : List Int), false), ((Go.Eng.Er.s ErrShape), ())))
                  (
                  Option.bind (F_mat_narrow N (y1).1) fun y2 =>
                  cond (Bool.not (y2).1)
                    (
                    some ((([] : List Int), false), ((Go.Eng.Er.s ErrRange), ())))
                    (
                    Option.bind (F_mat_narrow N ((y1).2).1) fun y3 =>
                    cond (Bool.not (y3).1)
                      (
                      some ((([] : List Int), false), ((Go.Eng.Er.s ErrRange), ())))
                      (
                      cond (decide (0 < (List.length (((((y1).2).2).1).1).1)))
                        (
                        cond (decide (1 < (List.length ((((((y1).2).2).2).1).1).1)))
                          (
                          Option.bind (F_shape_Valid N (((List.getD (((((y1).2).2).1).1).1 0 (0 : Int)) :: ((List.getD ((((((y1).2).2).2).1).1).1 1 (0 : Int)) :: ([] : List Int))), true)) fun y4 =>
                          cond (Bool.not (Go.Eng.Er.isNil (y4).1))
                            (
                            some ((([] : List Int), false), y4))
                            (
                            some ((((List.getD (((((y1).2).2).1).1).1 0 (0 : Int)) :: ((List.getD ((((((y1).2).2).2).1).1).1 1 (0 : Int)) :: ([] : List Int))), true), (Go.Eng.Er.nil, ()))))
                          (
                          none))
                        (
                        none)))))))
            (
            none))
          (
          none))))
    (fun y5 =>
    cond (decide (((0 : Nat) + (List.length ((y5).1).1)) ≤ (List.length ((y5).1).1)))
      (
      some (((List.take (List.length ((y5).1).1) ((y5).1).1), (((y5).1).2).1), (y5).2))
      (
      none)) y0

abbrev c_mat_Result (N : Nat) : CallSpec := ⟨77, ps_mat_Result, rs_mat_Result, fun x => F_mat_Result N x.1 x.2.1 x.2.2.1 x.2.2.2.1⟩
abbrev l_mat_Result_0 (N : Nat) : LoopSpec := ⟨0, h_mat_Result_0, e_mat_Result_0, fun x => g_mat_Result_0 N N x.1 x.2.1 x.2.2.1 x.2.2.2.1 x.2.2.2.2.1 x.2.2.2.2.2.1 x.2.2.2.2.2.2.1 x.2.2.2.2.2.2.2.1⟩

theorem cs_mat_Result_ok (S : Nat → Addr) (N : Nat) : CallsOK Go.Proofs.Tryd.prog E S (cs_mat_Result N) :=
  .cons (F_shape_Valid_ok S N) (.cons (F_mat_narrow_ok S N) (.nil))
noncomputable abbrev b_mat_Result_0 : Code := (loopsOf b_mat_Result).getD 0 .skip
theorem g_mat_Result_0_ok (S : Nat → Addr) (N : Nat) : ∀ n x y, (fun (x : Val (slotsTy h_mat_Result_0)) => g_mat_Result_0 N n x.1 x.2.1 x.2.2.1 x.2.2.2.1 x.2.2.2.2.1 x.2.2.2.2.2.1 x.2.2.2.2.2.2.1 x.2.2.2.2.2.2.2.1) x = some y → LoopCon Go.Proofs.Tryd.prog E S b_mat_Result_0 (encSlots h_mat_Result_0 x) (encEx e_mat_Result_0 y).1 (encEx e_mat_Result_0 y).2 :=
  loop_spec E_ok mixed (cs_mat_Result_ok S N) (all := loopsOf b_mat_Result) (ls := []) (.nil) (i := 0) (by kernel_rfl) (inner_of (by kernel_rfl)) (head := h_mat_Result_0) (ex := e_mat_Result_0) (fun n (x : Val (slotsTy h_mat_Result_0)) => g_mat_Result_0 N n x.1 x.2.1 x.2.2.1 x.2.2.2.1 x.2.2.2.2.1 x.2.2.2.2.2.1 x.2.2.2.2.2.2.1 x.2.2.2.2.2.2.2.1) (fun _ => rfl) (fun n x => by kernel_rfl)
theorem F_mat_Result_ok (S : Nat → Addr) (N : Nat) : ∀ x y, (c_mat_Result N).g x = some y → FCon Go.Proofs.Tryd.prog E S 77 ps_mat_Result rs_mat_Result x y := by
  intro x y h
  exact fun_spec E_ok mixed (cs_mat_Result_ok S N) (f := 77) (fi := ⟨b_mat_Result, 88, Go.Proofs.Tryd.f77.results.toList⟩) (by kernel_rfl) (ls := [l_mat_Result_0 N]) (.cons (by kernel_rfl) (g_mat_Result_0_ok S N N) (.nil)) (by kernel_rfl) (ps := ps_mat_Result) (rs := rs_mat_Result) (Eq.trans (b := F_mat_Result N x.1 x.2.1 x.2.2.1 x.2.2.2.1) (by kernel_rfl) h)

/-! lodge/mat.result -/

abbrev ps_mat_result : List Ty := [(.st (.pair (.st (.pair (.sl (.int .i64)) .bool)) (.sl (.int .i64)))), (.st (.pair (.st (.pair (.sl (.int .i64)) .bool)) (.sl (.int .i64)))), (.int .i64), (.int .i64)]
abbrev rs_mat_result : List Slot := [.data (.st (.pair (.sl (.int .i64)) .bool)), .data .err]
abbrev cs_mat_result (N : Nat) : List CallSpec := [c_tens_Valid N, c_mat_Result N]
noncomputable abbrev b_mat_result : Code := (Go.Proofs.Tryd.f57.body).getD .skip

abbrev h_mat_result_0 : List Slot := [.dead, .dead, .data (.int .i64), .data (.int .i64), .box [.d (.st (.pair (.st (.pair (.sl (.int .i64)) .bool)) (.sl (.int .i64))))], .box [.d (.st (.pair (.st (.pair (.sl (.int .i64)) .bool)) (.sl (.int .i64))))], .dead, .dead, .box [.sl (.int .i64), .d .bool], .dead, .dead, .dead, .dead, .dead, .dead, .sl (.st (.pair (.st (.pair (.sl (.int .i64)) .bool)) (.sl (.int .i64)))), .data (.int .i64), .data (.int .i64), .dead, .dead, .dead, .dead, .dead, .dead, .dead, .dead, .dead, .dead, .dead, .dead, .dead, .dead, .dead, .dead, .dead, .dead, .dead]
abbrev e_mat_result_0 : List (AX × List Slot) := [(AX.exit 0, [.dead, .dead, .data (.int .i64), .data (.int .i64), .box [.d (.st (.pair (.st (.pair (.sl (.int .i64)) .bool)) (.sl (.int .i64))))], .box [.d (.st (.pair (.st (.pair (.sl (.int .i64)) .bool)) (.sl (.int .i64))))], .dead, .dead, .box [.sl (.int .i64), .d .bool], .dead, .dead, .dead, .dead, .dead, .dead, .dead, .dead, .dead, .dead, .dead, .dead, .dead, .dead, .dead, .dead, .dead, .dead, .dead, .dead, .dead, .dead, .dead, .dead, .dead, .dead, .dead, .dead]), (AX.ret, [.dead, .dead, .dead, .dead, .dead, .dead, .dead, .dead, .box [.sl (.int .i64), .d .bool], .data .err, .dead, .dead, .dead, .dead, .dead, .dead, .dead, .dead, .dead, .dead, .dead, .dead, .dead, .dead, .dead, .dead, .dead, .dead, .dead, .dead, .dead, .dead, .dead, .dead, .dead, .dead, .dead])]
def g_mat_result_0 (N : Nat) : Nat → Int → Int → (((List Int × Bool) × List Int) × Unit) → (((List Int × Bool) × List Int) × Unit) → (List Int × (Bool × Unit)) → List (((List Int × Bool) × List Int)) → Int → Int → Option (Sum (Int × (Int × ((((List Int × Bool) × List Int) × Unit) × ((((List Int × Bool) × List Int) × Unit) × ((List Int × (Bool × Unit)) × Unit))))) ((List Int × (Bool × Unit)) × (Er × Unit)))
  | 0, _, _, _, _, _, _, _, _ => none
  | n + 1, za_2, zb_3, a_4, b_5, t_8, t_15, t_16, t_17 =>
    cond (decide (t_17 < t_16))
      (
      cond (decide ((0 : Int) ≤ t_17))
        (
        cond (decide ((Int.toNat t_17) < (List.length t_15)))
          (
          cond (decide (((0 : Nat) + (Int.toNat t_17)) < (List.length t_15)))
            (
            Option.bind (F_tens_Valid N (List.getD t_15 ((0 : Nat) + (Int.toNat t_17)) ((([] : List Int), false), ([] : List Int)))) fun y1 =>
            cond (Bool.not (Go.Eng.Er.isNil (y1).1))
              (
              some (Sum.inr ((([] : List Int), (false, ())), y1)))
              (
              cond (decide ((List.length (t_8).1) = (List.length (t_8).1)))
                (
                cond (decide ((List.length t_15) = (List.length t_15)))
                  (
                  (g_mat_result_0 N n za_2 zb_3 a_4 b_5 t_8 t_15 t_16 (wi64 (t_17 + (1 : Int)))))
                  (
                  none))
                (
                none)))
            (
            none))
          (
          none))
        (
        none))
      (
      cond (decide ((List.length (t_8).1) = (List.length (t_8).1)))
        (
        some (Sum.inl (za_2, (zb_3, (a_4, (b_5, (t_8, ())))))))
        (
        none))

def F_mat_result (N : Nat) (a_0 : ((List Int × Bool) × List Int)) (b_1 : ((List Int × Bool) × List Int)) (za_2 : Int) (zb_3 : Int) : Option ((List Int × Bool) × (Er × Unit)) :=
  Option.bind (g_mat_result_0 N N za_2 zb_3 (a_0, ()) (b_1, ()) (([] : List Int), (false, ())) (a_0 :: (b_1 :: ([] : List (((List Int) × Bool) × (List Int))))) (Nat.cast (2 : Nat) : Int) (0 : Int)) fun y0 =>
  Sum.elim (fun y1 =>
    Option.bind (F_mat_Result N (y1).1 ((y1).2).1 (((((y1).2).2).1).1).1 ((((((y1).2).2).2).1).1).1) fun y2 =>
    some y2)
    (fun y3 =>
    cond (decide (((0 : Nat) + (List.length ((y3).1).1)) ≤ (List.length ((y3).1).1)))
      (
      some (((List.take (List.length ((y3).1).1) ((y3).1).1), (((y3).1).2).1), (y3).2))
      (
      none)) y0

abbrev c_mat_result (N : Nat) : CallSpec := ⟨57, ps_mat_result, rs_mat_result, fun x => F_mat_result N x.1 x.2.1 x.2.2.1 x.2.2.2.1⟩
abbrev l_mat_result_0 (N : Nat) : LoopSpec := ⟨0, h_mat_result_0, e_mat_result_0, fun x => g_mat_result_0 N N x.1 x.2.1 x.2.2.1 x.2.2.2.1 x.2.2.2.2.1 x.2.2.2.2.2.1 x.2.2.2.2.2.2.1 x.2.2.2.2.2.2.2.1⟩

theorem cs_mat_result_ok (S : Nat → Addr) (N : Nat) : CallsOK Go.Proofs.Tryd.prog E S (cs_mat_result N) :=
  .cons (F_tens_Valid_ok S N) (.cons (F_mat_Result_ok S N) (.nil))
noncomputable abbrev b_mat_result_0 : Code := (loopsOf b_mat_result).getD 0 .skip
theorem g_mat_result_0_ok (S : Nat → Addr) (N : Nat) : ∀ n x y, (fun (x : Val (slotsTy h_mat_result_0)) => g_mat_result_0 N n x.1 x.2.1 x.2.2.1 x.2.2.2.1 x.2.2.2.2.1 x.2.2.2.2.2.1 x.2.2.2.2.2.2.1 x.2.2.2.2.2.2.2.1) x = some y → LoopCon Go.Proofs.Tryd.prog E S b_mat_result_0 (encSlots h_mat_result_0 x) (encEx e_mat_result_0 y).1 (encEx e_mat_result_0 y).2 :=
  loop_spec E_ok mixed (cs_mat_result_ok S N) (all := loopsOf b_mat_result) (ls := []) (.nil) (i := 0) (by kernel_rfl) (inner_of (by kernel_rfl)) (head := h_mat_result_0) (ex := e_mat_result_0) (fun n (x : Val (slotsTy h_mat_result_0)) => g_mat_result_0 N n x.1 x.2.1 x.2.2.1 x.2.2.2.1 x.2.2.2.2.1 x.2.2.2.2.2.1 x.2.2.2.2.2.2.1 x.2.2.2.2.2.2.2.1) (fun _ => rfl) (fun n x => by kernel_rfl)
theorem F_mat_result_ok (S : Nat → Addr) (N : Nat) : ∀ x y, (c_mat_result N).g x = some y → FCon Go.Proofs.Tryd.prog E S 57 ps_mat_result rs_mat_result x y := by
  intro x y h
  exact fun_spec E_ok mixed (cs_mat_result_ok S N) (f := 57) (fi := ⟨b_mat_result, 37, Go.Proofs.Tryd.f57.results.toList⟩) (by kernel_rfl) (ls := [l_mat_result_0 N]) (.cons (by kernel_rfl) (g_mat_result_0_ok S N N) (.nil)) (by kernel_rfl) (ps := ps_mat_result) (rs := rs_mat_result) (Eq.trans (b := F_mat_result N x.1 x.2.1 x.2.2.1 x.2.2.2.1) (by kernel_rfl) h)

/-! lodge/mat.Mul -/

abbrev ps_mat_Mul : List Ty := [(.st (.pair (.st (.pair (.sl (.int .i64)) .bool)) (.sl (.int .i64)))), (.st (.pair (.st (.pair (.sl (.int .i64)) .bool)) (.sl (.int .i64)))), (.int .i64), (.int .i64)]
abbrev rs_mat_Mul : List Slot := [.ag [.d (.sl (.int .i64)), .d .bool, .sl (.int .i64)], .data .err]
abbrev cs_mat_Mul (N : Nat) : List CallSpec := [c_tens_Wide N, c_mat_result N]
noncomputable abbrev b_mat_Mul : Code := (Go.Proofs.Tryd.f29.body).getD .skip

abbrev h_mat_Mul_2 : List Slot := [.dead, .dead, .data (.int .i64), .data (.int .i64), .box [.d (.st (.pair (.st (.pair (.sl (.int .i64)) .bool)) (.sl (.int .i64))))], .box [.d (.st (.pair (.st (.pair (.sl (.int .i64)) .bool)) (.sl (.int .i64))))], .dead, .dead, .box [.sl (.int .i64), .d .bool, .sl (.int .i64)], .dead, .dead, .dead, .data (.int .i64), .data (.int .i64), .data (.int .i64), .box [.d (.sl (.int .i64)), .d .bool, .sl (.int .i64)], .data (.int .i64), .data (.int .i64), .data (.int .i64), .dead, .dead, .dead, .dead, .dead, .dead, .dead, .dead, .dead, .dead, .dead, .dead, .dead, .dead, .dead, .dead, .dead, .dead, .dead, .dead, .dead, .dead, .dead, .dead, .dead, .dead, .dead, .dead, .dead, .dead, .dead, .dead, .dead, .dead, .dead, .dead, .dead, .dead, .dead, .dead, .dead, .dead, .dead, .dead, .data (.int .i64), .data (.int .i64), .dead, .dead, .dead, .dead, .dead, .dead, .dead, .dead, .dead, .dead, .dead, .dead, .dead, .dead, .dead, .dead, .dead, .dead, .dead, .dead, .dead, .dead, .dead, .dead, .dead, .dead, .dead, .dead, .dead, .dead, .dead, .dead, .dead, .dead, .dead, .dead, .dead, .dead, .dead]
abbrev e_mat_Mul_2 : List (AX × List Slot) := [(AX.exit 4, [.dead, .dead, .data (.int .i64), .data (.int .i64), .box [.d (.st (.pair (.st (.pair (.sl (.int .i64)) .bool)) (.sl (.int .i64))))], .box [.d (.st (.pair (.st (.pair (.sl (.int .i64)) .bool)) (.sl (.int .i64))))], .dead, .dead, .box [.sl (.int .i64), .d .bool, .sl (.int .i64)], .dead, .dead, .dead, .data (.int .i64), .data (.int .i64), .data (.int .i64), .box [.d (.sl (.int .i64)), .d .bool, .sl (.int .i64)], .data (.int .i64), .data (.int .i64), .data (.int .i64), .dead, .dead, .dead, .dead, .dead, .dead, .dead, .dead, .dead, .dead, .dead, .dead, .dead, .dead, .dead, .dead, .dead, .dead, .dead, .dead, .dead, .dead, .dead, .dead, .dead, .dead, .dead, .dead, .dead, .dead, .dead, .dead, .dead, .dead, .dead, .dead, .dead, .dead, .dead, .dead, .dead, .dead, .dead, .dead, .dead, .dead, .dead, .dead, .dead, .dead, .dead, .dead, .dead, .dead, .dead, .dead, .dead, .dead, .dead, .dead, .dead, .dead, .dead, .dead, .dead, .dead, .dead, .dead, .dead, .dead, .dead, .dead, .dead, .dead, .dead, .dead, .dead, .dead, .dead, .dead, .dead, .dead, .dead, .dead, .dead])]
def g_mat_Mul_2 (N : Nat) : Nat → Int → Int → (((List Int × Bool) × List Int) × Unit) → (((List Int × Bool) × List Int) × Unit) → (List Int × (Bool × (List Int × Unit))) → Int → Int → Int → (List Int × (Bool × (List Int × Unit))) → Int → Int → Int → Int → Int → Option (Int × (Int × ((((List Int × Bool) × List Int) × Unit) × ((((List Int × Bool) × List Int) × Unit) × ((List Int × (Bool × (List Int × Unit))) × (Int × (Int × (Int × ((List Int × (Bool × (List Int × Unit))) × (Int × (Int × (Int × Unit))))))))))))
  | 0, _, _, _, _, _, _, _, _, _, _, _, _, _, _ => none
  | n + 1, za_2, zb_3, a_4, b_5, t_8, m_12, k_13, n_14, out_15, i_16, j_17, s_18, t_63, t_64 =>
    cond (decide (t_64 < t_63))
      (
      cond (decide ((0 : Int) ≤ (wi64 ((wi64 (i_16 * k_13)) + t_64))))
        (
        cond (decide ((Int.toNat (wi64 ((wi64 (i_16 * k_13)) + t_64))) < (List.length ((a_4).1).2)))
          (
          cond (decide ((0 : Int) ≤ (wi64 ((wi64 (t_64 * n_14)) + j_17))))
            (
            cond (decide ((Int.toNat (wi64 ((wi64 (t_64 * n_14)) + j_17))) < (List.length ((b_5).1).2)))
              (
              cond (decide ((List.length (t_8).1) = (List.length (t_8).1)))
                (
                cond (decide ((List.length (((t_8).2).2).1) = (List.length (((t_8).2).2).1)))
                  (
                  cond (decide ((List.length (((out_15).2).2).1) = (List.length (((out_15).2).2).1)))
                    (
                    (g_mat_Mul_2 N n za_2 zb_3 a_4 b_5 t_8 m_12 k_13 n_14 out_15 i_16 j_17 (wi64 (s_18 + (wi64 ((wi64 ((List.getD ((a_4).1).2 (Int.toNat (wi64 ((wi64 (i_16 * k_13)) + t_64))) (0 : Int)) - za_2)) * (wi64 ((List.getD ((b_5).1).2 (Int.toNat (wi64 ((wi64 (t_64 * n_14)) + j_17))) (0 : Int)) - zb_3)))))) t_63 (wi64 (t_64 + (1 : Int)))))
                    (
                    none))
                  (
                  none))
                (
                none))
              (
              none))
            (
            none))
          (
          none))
        (
        none))
      (
      cond (decide ((List.length (t_8).1) = (List.length (t_8).1)))
        (
        cond (decide ((List.length (((t_8).2).2).1) = (List.length (((t_8).2).2).1)))
          (
          cond (decide ((List.length (((out_15).2).2).1) = (List.length (((out_15).2).2).1)))
            (
            some (za_2, (zb_3, (a_4, (b_5, (t_8, (m_12, (k_13, (n_14, (out_15, (i_16, (j_17, (s_18, ())))))))))))))
            (
            none))
          (
          none))
        (
        none))

abbrev h_mat_Mul_1 : List Slot := [.dead, .dead, .data (.int .i64), .data (.int .i64), .box [.d (.st (.pair (.st (.pair (.sl (.int .i64)) .bool)) (.sl (.int .i64))))], .box [.d (.st (.pair (.st (.pair (.sl (.int .i64)) .bool)) (.sl (.int .i64))))], .dead, .dead, .box [.sl (.int .i64), .d .bool, .sl (.int .i64)], .dead, .dead, .dead, .data (.int .i64), .data (.int .i64), .data (.int .i64), .box [.d (.sl (.int .i64)), .d .bool, .sl (.int .i64)], .data (.int .i64), .data (.int .i64), .dead, .dead, .dead, .dead, .dead, .dead, .dead, .dead, .dead, .dead, .dead, .dead, .dead, .dead, .dead, .dead, .dead, .dead, .dead, .dead, .dead, .dead, .dead, .dead, .dead, .dead, .dead, .dead, .dead, .dead, .dead, .dead, .dead, .dead, .dead, .dead, .dead, .dead, .dead, .dead, .dead, .dead, .dead, .dead, .dead, .dead, .dead, .dead, .dead, .dead, .dead, .dead, .dead, .dead, .dead, .dead, .dead, .dead, .dead, .dead, .dead, .dead, .dead, .dead, .dead, .dead, .dead, .dead, .dead, .dead, .dead, .dead, .dead, .dead, .dead, .dead, .dead, .dead, .dead, .dead, .dead, .dead, .dead, .dead, .dead, .dead]
abbrev e_mat_Mul_1 : List (AX × List Slot) := [(AX.exit 0, [.dead, .dead, .dead, .dead, .dead, .dead, .dead, .dead, .box [.sl (.int .i64), .d .bool, .sl (.int .i64)], .dead, .dead, .dead, .dead, .dead, .dead, .box [.d (.sl (.int .i64)), .d .bool, .sl (.int .i64)], .dead, .dead, .dead, .dead, .dead, .dead, .dead, .dead, .dead, .dead, .dead, .dead, .dead, .dead, .dead, .dead, .dead, .dead, .dead, .dead, .dead, .dead, .dead, .dead, .dead, .dead, .dead, .dead, .dead, .dead, .dead, .dead, .dead, .dead, .dead, .dead, .dead, .dead, .dead, .dead, .dead, .dead, .dead, .dead, .dead, .dead, .dead, .dead, .dead, .dead, .dead, .dead, .dead, .dead, .dead, .dead, .dead, .dead, .dead, .dead, .dead, .dead, .dead, .dead, .dead, .dead, .dead, .dead, .dead, .dead, .dead, .dead, .dead, .dead, .dead, .dead, .dead, .dead, .dead, .dead, .dead, .dead, .dead, .dead, .dead, .dead, .dead, .dead]), (AX.exit 1, [.dead, .dead, .data (.int .i64), .data (.int .i64), .box [.d (.st (.pair (.st (.pair (.sl (.int .i64)) .bool)) (.sl (.int .i64))))], .box [.d (.st (.pair (.st (.pair (.sl (.int .i64)) .bool)) (.sl (.int .i64))))], .dead, .dead, .box [.sl (.int .i64), .d .bool, .sl (.int .i64)], .dead, .dead, .dead, .data (.int .i64), .data (.int .i64), .data (.int .i64), .box [.d (.sl (.int .i64)), .d .bool, .sl (.int .i64)], .data (.int .i64), .dead, .dead, .dead, .dead, .dead, .dead, .dead, .dead, .dead, .dead, .dead, .dead, .dead, .dead, .dead, .dead, .dead, .dead, .dead, .dead, .dead, .dead, .dead, .dead, .dead, .dead, .dead, .dead, .dead, .dead, .dead, .dead, .dead, .dead, .dead, .dead, .dead, .dead, .dead, .dead, .dead, .dead, .dead, .dead, .dead, .dead, .dead, .dead, .dead, .dead, .dead, .dead, .dead, .dead, .dead, .dead, .dead, .dead, .dead, .dead, .dead, .dead, .dead, .dead, .dead, .dead, .dead, .dead, .dead, .dead, .dead, .dead, .dead, .dead, .dead, .dead, .dead, .dead, .dead, .dead, .dead, .dead, .dead, .dead, .dead, .dead, .dead])]
def g_mat_Mul_1 (N : Nat) : Nat → Int → Int → (((List Int × Bool) × List Int) × Unit) → (((List Int × Bool) × List Int) × Unit) → (List Int × (Bool × (List Int × Unit))) → Int → Int → Int → (List Int × (Bool × (List Int × Unit))) → Int → Int → Option (Sum ((List Int × (Bool × (List Int × Unit))) × ((List Int × (Bool × (List Int × Unit))) × Unit)) (Int × (Int × ((((List Int × Bool) × List Int) × Unit) × ((((List Int × Bool) × List Int) × Unit) × ((List Int × (Bool × (List Int × Unit))) × (Int × (Int × (Int × ((List Int × (Bool × (List Int × Unit))) × (Int × Unit)))))))))))
  | 0, _, _, _, _, _, _, _, _, _, _, _ => none
  | n + 1, za_2, zb_3, a_4, b_5, t_8, m_12, k_13, n_14, out_15, i_16, j_17 =>
    cond (decide (j_17 = n_14))
      (
      cond (decide ((List.length (t_8).1) = (List.length (t_8).1)))
        (
        cond (decide ((List.length (((t_8).2).2).1) = (List.length (((t_8).2).2).1)))
          (
          cond (decide ((List.length (((out_15).2).2).1) = (List.length (((out_15).2).2).1)))
            (
            some (Sum.inr (za_2, (zb_3, (a_4, (b_5, (t_8, (m_12, (k_13, (n_14, (out_15, (i_16, ()))))))))))))
            (
            none))
          (
          none))
        (
        none))
      (
      cond (decide (i_16 = m_12))
        (
        cond (decide ((List.length (t_8).1) = (List.length (t_8).1)))
          (
          cond (decide ((List.length (((t_8).2).2).1) = (List.length (((t_8).2).2).1)))
            (
            cond (decide ((List.length (((out_15).2).2).1) = (List.length (((out_15).2).2).1)))
              (
              some (Sum.inl (t_8, (out_15, ()))))
              (
              none))
            (
            none))
          (
          none))
        (
        cond (decide ((List.length (t_8).1) = (List.length (t_8).1)))
          (
          cond (decide ((List.length (((t_8).2).2).1) = (List.length (((t_8).2).2).1)))
            (
            cond (decide ((List.length (((out_15).2).2).1) = (List.length (((out_15).2).2).1)))
              (
              Option.bind (g_mat_Mul_2 N N za_2 zb_3 a_4 b_5 t_8 m_12 k_13 n_14 out_15 i_16 j_17 (0 : Int) k_13 (0 : Int)) fun y3 =>
              Option.bind (F_tens_Wide N ((((((((((((y3).2).2).2).2).2).2).2).2).2).2).2).1) fun y4 =>
              cond (decide ((0 : Int) ≤ (wi64 ((wi64 (((((((((((y3).2).2).2).2).2).2).2).2).2).1 * ((((((((y3).2).2).2).2).2).2).2).1)) + (((((((((((y3).2).2).2).2).2).2).2).2).2).2).1))))
                (
                cond (decide ((Int.toNat (wi64 ((wi64 (((((((((((y3).2).2).2).2).2).2).2).2).2).1 * ((((((((y3).2).2).2).2).2).2).2).1)) + (((((((((((y3).2).2).2).2).2).2).2).2).2).2).1))) < (List.length ((((((((((((y3).2).2).2).2).2).2).2).2).1).2).2).1)))
                  (
                  cond (decide (((0 : Nat) + (Int.toNat (wi64 ((wi64 (((((((((((y3).2).2).2).2).2).2).2).2).2).1 * ((((((((y3).2).2).2).2).2).2).2).1)) + (((((((((((y3).2).2).2).2).2).2).2).2).2).2).1)))) < (List.length ((((((((((((y3).2).2).2).2).2).2).2).2).1).2).2).1)))
                    (
                    cond (decide ((List.length ((((((y3).2).2).2).2).1).1) = (List.length ((((((y3).2).2).2).2).1).1)))
                      (
                      cond (decide ((List.length ((((((((y3).2).2).2).2).1).2).2).1) = (List.length ((((((((y3).2).2).2).2).1).2).2).1)))
                        (
                        cond (decide ((List.length ((((((((((((y3).2).2).2).2).2).2).2).2).1).2).2).1) = (List.length (List.set ((((((((((((y3).2).2).2).2).2).2).2).2).1).2).2).1 ((0 : Nat) + (Int.toNat (wi64 ((wi64 (((((((((((y3).2).2).2).2).2).2).2).2).2).1 * ((((((((y3).2).2).2).2).2).2).2).1)) + (((((((((((y3).2).2).2).2).2).2).2).2).2).2).1)))) (y4).1))))
                          (
                          (g_mat_Mul_1 N n (y3).1 ((y3).2).1 (((y3).2).2).1 ((((y3).2).2).2).1 (((((y3).2).2).2).2).1 ((((((y3).2).2).2).2).2).1 (((((((y3).2).2).2).2).2).2).1 ((((((((y3).2).2).2).2).2).2).2).1 (((((((((((y3).2).2).2).2).2).2).2).2).1).1, ((((((((((((y3).2).2).2).2).2).2).2).2).1).2).1, ((List.set ((((((((((((y3).2).2).2).2).2).2).2).2).1).2).2).1 ((0 : Nat) + (Int.toNat (wi64 ((wi64 (((((((((((y3).2).2).2).2).2).2).2).2).2).1 * ((((((((y3).2).2).2).2).2).2).2).1)) + (((((((((((y3).2).2).2).2).2).2).2).2).2).2).1)))) (y4).1), ()))) ((((((((((y3).2).2).2).2).2).2).2).2).2).1 (wi64 ((((((((((((y3).2).2).2).2).2).2).2).2).2).2).1 + (1 : Int)))))
                          (
                          none))
                        (
                        none))
                      (
                      none))
                    (
                    none))
                  (
                  none))
                (
                none))
              (
              none))
            (
            none))
          (
          none)))

abbrev h_mat_Mul_0 : List Slot := [.dead, .dead, .data (.int .i64), .data (.int .i64), .box [.d (.st (.pair (.st (.pair (.sl (.int .i64)) .bool)) (.sl (.int .i64))))], .box [.d (.st (.pair (.st (.pair (.sl (.int .i64)) .bool)) (.sl (.int .i64))))], .dead, .dead, .box [.sl (.int .i64), .d .bool, .sl (.int .i64)], .dead, .dead, .dead, .data (.int .i64), .data (.int .i64), .data (.int .i64), .box [.d (.sl (.int .i64)), .d .bool, .sl (.int .i64)], .data (.int .i64), .dead, .dead, .dead, .dead, .dead, .dead, .dead, .dead, .dead, .dead, .dead, .dead, .dead, .dead, .dead, .dead, .dead, .dead, .dead, .dead, .dead, .dead, .dead, .dead, .dead, .dead, .dead, .dead, .dead, .dead, .dead, .dead, .dead, .dead, .dead, .dead, .dead, .dead, .dead, .dead, .dead, .dead, .dead, .dead, .dead, .dead, .dead, .dead, .dead, .dead, .dead, .dead, .dead, .dead, .dead, .dead, .dead, .dead, .dead, .dead, .dead, .dead, .dead, .dead, .dead, .dead, .dead, .dead, .dead, .dead, .dead, .dead, .dead, .dead, .dead, .dead, .dead, .dead, .dead, .dead, .dead, .dead, .dead, .dead, .dead, .dead, .dead]
abbrev e_mat_Mul_0 : List (AX × List Slot) := [(AX.exit 0, [.dead, .dead, .dead, .dead, .dead, .dead, .dead, .dead, .box [.sl (.int .i64), .d .bool, .sl (.int .i64)], .dead, .dead, .dead, .dead, .dead, .dead, .box [.d (.sl (.int .i64)), .d .bool, .sl (.int .i64)], .dead, .dead, .dead, .dead, .dead, .dead, .dead, .dead, .dead, .dead, .dead, .dead, .dead, .dead, .dead, .dead, .dead, .dead, .dead, .dead, .dead, .dead, .dead, .dead, .dead, .dead, .dead, .dead, .dead, .dead, .dead, .dead, .dead, .dead, .dead, .dead, .dead, .dead, .dead, .dead, .dead, .dead, .dead, .dead, .dead, .dead, .dead, .dead, .dead, .dead, .dead, .dead, .dead, .dead, .dead, .dead, .dead, .dead, .dead, .dead, .dead, .dead, .dead, .dead, .dead, .dead, .dead, .dead, .dead, .dead, .dead, .dead, .dead, .dead, .dead, .dead, .dead, .dead, .dead, .dead, .dead, .dead, .dead, .dead, .dead, .dead, .dead, .dead])]
def g_mat_Mul_0 (N : Nat) : Nat → Int → Int → (((List Int × Bool) × List Int) × Unit) → (((List Int × Bool) × List Int) × Unit) → (List Int × (Bool × (List Int × Unit))) → Int → Int → Int → (List Int × (Bool × (List Int × Unit))) → Int → Option ((List Int × (Bool × (List Int × Unit))) × ((List Int × (Bool × (List Int × Unit))) × Unit))
  | 0, _, _, _, _, _, _, _, _, _, _ => none
  | n + 1, za_2, zb_3, a_4, b_5, t_8, m_12, k_13, n_14, out_15, i_16 =>
    cond (decide ((List.length (t_8).1) = (List.length (t_8).1)))
      (
      cond (decide ((List.length (((t_8).2).2).1) = (List.length (((t_8).2).2).1)))
        (
        cond (decide ((List.length (((out_15).2).2).1) = (List.length (((out_15).2).2).1)))
          (
          Option.bind (g_mat_Mul_1 N N za_2 zb_3 a_4 b_5 t_8 m_12 k_13 n_14 out_15 i_16 (0 : Int)) fun y8 =>
          Sum.elim (fun y9 =>
            cond (decide ((List.length ((y9).1).1) = (List.length ((y9).1).1)))
              (
              cond (decide ((List.length ((((y9).1).2).2).1) = (List.length ((((y9).1).2).2).1)))
                (
                cond (decide ((List.length (((((y9).2).1).2).2).1) = (List.length (((((y9).2).1).2).2).1)))
                  (
                  some y9)
                  (
                  none))
                (
                none))
              (
              none))
            (fun y10 =>
            cond (decide ((List.length ((((((y10).2).2).2).2).1).1) = (List.length ((((((y10).2).2).2).2).1).1)))
              (
              cond (decide ((List.length ((((((((y10).2).2).2).2).1).2).2).1) = (List.length ((((((((y10).2).2).2).2).1).2).2).1)))
                (
                cond (decide ((List.length ((((((((((((y10).2).2).2).2).2).2).2).2).1).2).2).1) = (List.length ((((((((((((y10).2).2).2).2).2).2).2).2).1).2).2).1)))
                  (
                  (g_mat_Mul_0 N n (y10).1 ((y10).2).1 (((y10).2).2).1 ((((y10).2).2).2).1 (((((y10).2).2).2).2).1 ((((((y10).2).2).2).2).2).1 (((((((y10).2).2).2).2).2).2).1 ((((((((y10).2).2).2).2).2).2).2).1 (((((((((y10).2).2).2).2).2).2).2).2).1 (wi64 (((((((((((y10).2).2).2).2).2).2).2).2).2).1 + (1 : Int)))))
                  (
                  none))
                (
                none))
              (
              none)) y8)
          (
          none))
        (
        none))
      (
      none)

def F_mat_Mul (N : Nat) (a_0 : ((List Int × Bool) × List Int)) (b_1 : ((List Int × Bool) × List Int)) (za_2 : Int) (zb_3 : Int) : Option ((List Int × (Bool × (List Int × Unit))) × (Er × Unit)) :=
  Option.bind (F_mat_result N a_0 b_1 za_2 zb_3) fun y0 =>
  cond (Bool.not (Go.Eng.Er.isNil ((y0).2).1))
    (
    some ((([] : List Int), (false, (([] : List Int), ()))), (y0).2))
    (
    cond (decide (0 < (List.length ((a_0).1).1)))
      (
      cond (decide (1 < (List.length ((a_0).1).1)))
        (
        cond (decide (1 < (List.length ((b_1).1).1)))
          (
          cond (decide ((0 : Int) ≤ (wi64 ((List.getD ((a_0).1).1 0 (0 : Int)) * (List.getD ((b_1).1).1 1 (0 : Int))))))
            (
            cond (decide ((wi64 ((List.getD ((a_0).1).1 0 (0 : Int)) * (List.getD ((b_1).1).1 1 (0 : Int)))) ≤ (wi64 ((List.getD ((a_0).1).1 0 (0 : Int)) * (List.getD ((b_1).1).1 1 (0 : Int))))))
              (
              cond (decide (((wi64 ((List.getD ((a_0).1).1 0 (0 : Int)) * (List.getD ((b_1).1).1 1 (0 : Int)))) * ((Nat.cast 8 : Int) + (1 : Int))) ≤ (Nat.cast Go.Eng.most : Int)))
                (
                cond (decide ((Int.toNat (wi64 ((List.getD ((a_0).1).1 0 (0 : Int)) * (List.getD ((b_1).1).1 1 (0 : Int))))) = (List.length (List.replicate (Int.toNat (wi64 ((List.getD ((a_0).1).1 0 (0 : Int)) * (List.getD ((b_1).1).1 1 (0 : Int))))) (0 : Int)))))
                  (
                  Option.bind (g_mat_Mul_0 N N za_2 zb_3 (a_0, ()) (b_1, ()) (([] : List Int), (false, (([] : List Int), ()))) (List.getD ((a_0).1).1 0 (0 : Int)) (List.getD ((a_0).1).1 1 (0 : Int)) (List.getD ((b_1).1).1 1 (0 : Int)) (((y0).1).1, (((y0).1).2, ((List.replicate (Int.toNat (wi64 ((List.getD ((a_0).1).1 0 (0 : Int)) * (List.getD ((b_1).1).1 1 (0 : Int))))) (0 : Int)), ()))) (0 : Int)) fun y1 =>
                  cond (decide ((List.length (((((y1).2).1).2).2).1) = (List.length (((((y1).2).1).2).2).1)))
                    (
                    some (((y1).2).1, (Go.Eng.Er.nil, ())))
                    (
                    none))
                  (
                  none))
                (
                none))
              (
              none))
            (
            none))
          (
          none))
        (
        none))
      (
      none))

abbrev c_mat_Mul (N : Nat) : CallSpec := ⟨29, ps_mat_Mul, rs_mat_Mul, fun x => F_mat_Mul N x.1 x.2.1 x.2.2.1 x.2.2.2.1⟩
abbrev l_mat_Mul_2 (N : Nat) : LoopSpec := ⟨2, h_mat_Mul_2, e_mat_Mul_2, fun x => g_mat_Mul_2 N N x.1 x.2.1 x.2.2.1 x.2.2.2.1 x.2.2.2.2.1 x.2.2.2.2.2.1 x.2.2.2.2.2.2.1 x.2.2.2.2.2.2.2.1 x.2.2.2.2.2.2.2.2.1 x.2.2.2.2.2.2.2.2.2.1 x.2.2.2.2.2.2.2.2.2.2.1 x.2.2.2.2.2.2.2.2.2.2.2.1 x.2.2.2.2.2.2.2.2.2.2.2.2.1 x.2.2.2.2.2.2.2.2.2.2.2.2.2.1⟩
abbrev l_mat_Mul_1 (N : Nat) : LoopSpec := ⟨1, h_mat_Mul_1, e_mat_Mul_1, fun x => g_mat_Mul_1 N N x.1 x.2.1 x.2.2.1 x.2.2.2.1 x.2.2.2.2.1 x.2.2.2.2.2.1 x.2.2.2.2.2.2.1 x.2.2.2.2.2.2.2.1 x.2.2.2.2.2.2.2.2.1 x.2.2.2.2.2.2.2.2.2.1 x.2.2.2.2.2.2.2.2.2.2.1⟩
abbrev l_mat_Mul_0 (N : Nat) : LoopSpec := ⟨0, h_mat_Mul_0, e_mat_Mul_0, fun x => g_mat_Mul_0 N N x.1 x.2.1 x.2.2.1 x.2.2.2.1 x.2.2.2.2.1 x.2.2.2.2.2.1 x.2.2.2.2.2.2.1 x.2.2.2.2.2.2.2.1 x.2.2.2.2.2.2.2.2.1 x.2.2.2.2.2.2.2.2.2.1⟩

theorem cs_mat_Mul_ok (S : Nat → Addr) (N : Nat) : CallsOK Go.Proofs.Tryd.prog E S (cs_mat_Mul N) :=
  .cons (F_tens_Wide_ok S N) (.cons (F_mat_result_ok S N) (.nil))
noncomputable abbrev b_mat_Mul_2 : Code := (loopsOf b_mat_Mul).getD 2 .skip
theorem g_mat_Mul_2_ok (S : Nat → Addr) (N : Nat) : ∀ n x y, (fun (x : Val (slotsTy h_mat_Mul_2)) => g_mat_Mul_2 N n x.1 x.2.1 x.2.2.1 x.2.2.2.1 x.2.2.2.2.1 x.2.2.2.2.2.1 x.2.2.2.2.2.2.1 x.2.2.2.2.2.2.2.1 x.2.2.2.2.2.2.2.2.1 x.2.2.2.2.2.2.2.2.2.1 x.2.2.2.2.2.2.2.2.2.2.1 x.2.2.2.2.2.2.2.2.2.2.2.1 x.2.2.2.2.2.2.2.2.2.2.2.2.1 x.2.2.2.2.2.2.2.2.2.2.2.2.2.1) x = some y → LoopCon Go.Proofs.Tryd.prog E S b_mat_Mul_2 (encSlots h_mat_Mul_2 x) (encEx e_mat_Mul_2 y).1 (encEx e_mat_Mul_2 y).2 :=
  loop_spec E_ok mixed (cs_mat_Mul_ok S N) (all := loopsOf b_mat_Mul) (ls := []) (.nil) (i := 2) (by kernel_rfl) (inner_of (by kernel_rfl)) (head := h_mat_Mul_2) (ex := e_mat_Mul_2) (fun n (x : Val (slotsTy h_mat_Mul_2)) => g_mat_Mul_2 N n x.1 x.2.1 x.2.2.1 x.2.2.2.1 x.2.2.2.2.1 x.2.2.2.2.2.1 x.2.2.2.2.2.2.1 x.2.2.2.2.2.2.2.1 x.2.2.2.2.2.2.2.2.1 x.2.2.2.2.2.2.2.2.2.1 x.2.2.2.2.2.2.2.2.2.2.1 x.2.2.2.2.2.2.2.2.2.2.2.1 x.2.2.2.2.2.2.2.2.2.2.2.2.1 x.2.2.2.2.2.2.2.2.2.2.2.2.2.1) (fun _ => rfl) (fun n x => by kernel_rfl)
noncomputable abbrev b_mat_Mul_1 : Code := (loopsOf b_mat_Mul).getD 1 .skip
theorem g_mat_Mul_1_ok (S : Nat → Addr) (N : Nat) : ∀ n x y, (fun (x : Val (slotsTy h_mat_Mul_1)) => g_mat_Mul_1 N n x.1 x.2.1 x.2.2.1 x.2.2.2.1 x.2.2.2.2.1 x.2.2.2.2.2.1 x.2.2.2.2.2.2.1 x.2.2.2.2.2.2.2.1 x.2.2.2.2.2.2.2.2.1 x.2.2.2.2.2.2.2.2.2.1 x.2.2.2.2.2.2.2.2.2.2.1) x = some y → LoopCon Go.Proofs.Tryd.prog E S b_mat_Mul_1 (encSlots h_mat_Mul_1 x) (encEx e_mat_Mul_1 y).1 (encEx e_mat_Mul_1 y).2 :=
  loop_spec E_ok mixed (cs_mat_Mul_ok S N) (all := loopsOf b_mat_Mul) (ls := [l_mat_Mul_2 N]) (.cons (by kernel_rfl) (g_mat_Mul_2_ok S N N) (.nil)) (i := 1) (by kernel_rfl) (inner_of (by kernel_rfl)) (head := h_mat_Mul_1) (ex := e_mat_Mul_1) (fun n (x : Val (slotsTy h_mat_Mul_1)) => g_mat_Mul_1 N n x.1 x.2.1 x.2.2.1 x.2.2.2.1 x.2.2.2.2.1 x.2.2.2.2.2.1 x.2.2.2.2.2.2.1 x.2.2.2.2.2.2.2.1 x.2.2.2.2.2.2.2.2.1 x.2.2.2.2.2.2.2.2.2.1 x.2.2.2.2.2.2.2.2.2.2.1) (fun _ => rfl) (fun n x => by kernel_rfl)
noncomputable abbrev b_mat_Mul_0 : Code := (loopsOf b_mat_Mul).getD 0 .skip
theorem g_mat_Mul_0_ok (S : Nat → Addr) (N : Nat) : ∀ n x y, (fun (x : Val (slotsTy h_mat_Mul_0)) => g_mat_Mul_0 N n x.1 x.2.1 x.2.2.1 x.2.2.2.1 x.2.2.2.2.1 x.2.2.2.2.2.1 x.2.2.2.2.2.2.1 x.2.2.2.2.2.2.2.1 x.2.2.2.2.2.2.2.2.1 x.2.2.2.2.2.2.2.2.2.1) x = some y → LoopCon Go.Proofs.Tryd.prog E S b_mat_Mul_0 (encSlots h_mat_Mul_0 x) (encEx e_mat_Mul_0 y).1 (encEx e_mat_Mul_0 y).2 :=
  loop_spec E_ok mixed (cs_mat_Mul_ok S N) (all := loopsOf b_mat_Mul) (ls := [l_mat_Mul_2 N, l_mat_Mul_1 N]) (.cons (by kernel_rfl) (g_mat_Mul_2_ok S N N) (.cons (by kernel_rfl) (g_mat_Mul_1_ok S N N) (.nil))) (i := 0) (by kernel_rfl) (inner_of (by kernel_rfl)) (head := h_mat_Mul_0) (ex := e_mat_Mul_0) (fun n (x : Val (slotsTy h_mat_Mul_0)) => g_mat_Mul_0 N n x.1 x.2.1 x.2.2.1 x.2.2.2.1 x.2.2.2.2.1 x.2.2.2.2.2.1 x.2.2.2.2.2.2.1 x.2.2.2.2.2.2.2.1 x.2.2.2.2.2.2.2.2.1 x.2.2.2.2.2.2.2.2.2.1) (fun _ => rfl) (fun n x => by kernel_rfl)
theorem F_mat_Mul_ok (S : Nat → Addr) (N : Nat) : ∀ x y, (c_mat_Mul N).g x = some y → FCon Go.Proofs.Tryd.prog E S 29 ps_mat_Mul rs_mat_Mul x y := by
  intro x y h
  exact fun_spec E_ok mixed (cs_mat_Mul_ok S N) (f := 29) (fi := ⟨b_mat_Mul, 104, Go.Proofs.Tryd.f29.results.toList⟩) (by kernel_rfl) (ls := [l_mat_Mul_2 N, l_mat_Mul_1 N, l_mat_Mul_0 N]) (.cons (by kernel_rfl) (g_mat_Mul_2_ok S N N) (.cons (by kernel_rfl) (g_mat_Mul_1_ok S N N) (.cons (by kernel_rfl) (g_mat_Mul_0_ok S N N) (.nil)))) (by kernel_rfl) (ps := ps_mat_Mul) (rs := rs_mat_Mul) (Eq.trans (b := F_mat_Mul N x.1 x.2.1 x.2.2.1 x.2.2.2.1) (by kernel_rfl) h)

/-! lodge/lodgelaw9.ConvOnes -/

abbrev ps_lodgelaw9_ConvOnes : List Ty := [(.int .i64), (.int .i64), (.int .i64), (.int .i64), (.sl (.int .i64)), (.int .i64)]
abbrev rs_lodgelaw9_ConvOnes : List Slot := [.data .bool]
abbrev cs_lodgelaw9_ConvOnes (N : Nat) : List CallSpec := [c_conv_Do N, c_lodgeref_SameInts N, c_lodgelaw9_first N, c_lodgeworld_Number N, c_lodgelaw9_tensor N, c_lodgeref_Ints N, c_tens_Clone N, c_mat_Mul N]
noncomputable abbrev b_lodgelaw9_ConvOnes : Code := (Go.Proofs.Tryd.f8.body).getD .skip

def F_lodgelaw9_ConvOnes (N : Nat) (h_0 : Int) (w_1 : Int) (c_2 : Int) (n_3 : Int) (l_4 : List Int) (za_5 : Int) : Option (Bool × Unit) :=
  Option.bind (F_lodgelaw9_first N) fun y0 =>
  cond (Bool.not (y0).1)
    (
    some (false, ()))
    (
    cond (decide ((30 : Int) < (Nat.cast (List.length l_4) : Int)))
      (
      some y0)
      (
      cond (Bool.not (y0).1)
        (
        some y0)
        (
        Option.bind (F_lodgeworld_Number N h_0 (5 : Int)) fun y1 =>
        Option.bind (F_lodgeworld_Number N w_1 (5 : Int)) fun y2 =>
        Option.bind (F_lodgeworld_Number N c_2 (5 : Int)) fun y3 =>
        Option.bind (F_lodgeworld_Number N n_3 (5 : Int)) fun y4 =>
        Option.bind (F_lodgeworld_Number N za_5 (256 : Int)) fun y5 =>
        Option.bind (F_lodgelaw9_tensor N ((wi64 ((y1).1 + (1 : Int))) :: ((wi64 ((y2).1 + (1 : Int))) :: ((wi64 ((y3).1 + (1 : Int))) :: ([] : List Int)))) l_4) fun y6 =>
        Option.bind (F_lodgeref_Ints N l_4) fun y7 =>
        cond (decide (((0 : Nat) + (List.length (y7).1)) = (List.length (y7).1)))
          (
          cond (decide ((((List.length (y7).1) + 1) * (8 + (1 : Nat))) ≤ Go.Eng.most))
            (
            cond (decide (((0 : Nat) + ((List.length (y7).1) + 1)) ≤ (List.length ((List.take (List.length (y7).1) (y7).1) ++ ((9 : Int) :: ([] : List Int))))))
              (
              Option.bind (F_lodgelaw9_tensor N ((1 : Int) :: ((1 : Int) :: ((wi64 ((y3).1 + (1 : Int))) :: ((wi64 ((y4).1 + (1 : Int))) :: ([] : List Int))))) (List.take ((List.length (y7).1) + 1) ((List.take (List.length (y7).1) (y7).1) ++ ((9 : Int) :: ([] : List Int))))) fun y8 =>
              cond (decide (((0 : Nat) + (List.length ((((y6).1).2).2).1)) ≤ (List.length ((((y6).1).2).2).1)))
                (
                cond (decide (((0 : Nat) + (List.length ((((y8).1).2).2).1)) ≤ (List.length ((((y8).1).2).2).1)))
                  (
                  Option.bind (F_conv_Do N ((((y6).1).1, (((y6).1).2).1), (List.take (List.length ((((y6).1).2).2).1) ((((y6).1).2).2).1)) ((((y8).1).1, (((y8).1).2).1), (List.take (List.length ((((y8).1).2).2).1) ((((y8).1).2).2).1)) ((1 : Int) :: ((0 : Int) :: ((wi64 ((y5).1 - (128 : Int))) :: ([] : List Int))))) fun y9 =>
                  cond (decide (((0 : Nat) + (List.length ((((y6).1).2).2).1)) ≤ (List.length ((((y6).1).2).2).1)))
                    (
                    Option.bind (F_tens_Clone N ((((y6).1).1, (((y6).1).2).1), (List.take (List.length ((((y6).1).2).2).1) ((((y6).1).2).2).1))) fun y10 =>
                    cond (decide (((0 : Nat) + (List.length ((((y8).1).2).2).1)) ≤ (List.length ((((y8).1).2).2).1)))
                      (
                      Option.bind (F_tens_Clone N ((((y8).1).1, (((y8).1).2).1), (List.take (List.length ((((y8).1).2).2).1) ((((y8).1).2).2).1))) fun y11 =>
                      cond (decide (((0 : Nat) + (List.length ((((y10).1).2).2).1)) ≤ (List.length ((((y10).1).2).2).1)))
                        (
                        cond (decide (((0 : Nat) + (List.length ((((y11).1).2).2).1)) ≤ (List.length ((((y11).1).2).2).1)))
                          (
                          Option.bind (F_mat_Mul N ((((wi64 ((wi64 ((y1).1 + (1 : Int))) * (wi64 ((y2).1 + (1 : Int))))) :: ((wi64 ((y3).1 + (1 : Int))) :: ([] : List Int))), (((y10).1).2).1), (List.take (List.length ((((y10).1).2).2).1) ((((y10).1).2).2).1)) ((((wi64 ((y3).1 + (1 : Int))) :: ((wi64 ((y4).1 + (1 : Int))) :: ([] : List Int))), (((y11).1).2).1), (List.take (List.length ((((y11).1).2).2).1) ((((y11).1).2).2).1)) (wi64 ((y5).1 - (128 : Int))) (0 : Int)) fun y12 =>
                          cond (Go.Eng.Er.isNil ((y9).2).1)
                            (
                            cond (Go.Eng.Er.isNil ((y12).2).1)
                              (
                              Option.bind (F_lodgeref_SameInts N ((y9).1).1 ((wi64 ((y1).1 + (1 : Int))) :: ((wi64 ((y2).1 + (1 : Int))) :: ((wi64 ((y4).1 + (1 : Int))) :: ([] : List Int))))) fun y13 =>
                              cond (y13).1
                                (
                                cond (decide (((0 : Nat) + (List.length ((((y9).1).2).2).1)) ≤ (List.length ((((y9).1).2).2).1)))
                                  (
                                  cond (decide (((0 : Nat) + (List.length ((((y12).1).2).2).1)) ≤ (List.length ((((y12).1).2).2).1)))
                                    (
                                    Option.bind (F_lodgeref_SameInts N (List.take (List.length ((((y9).1).2).2).1) ((((y9).1).2).2).1) (List.take (List.length ((((y12).1).2).2).1) ((((y12).1).2).2).1)) fun y14 =>
                                    some y14)
                                    (
                                    none))
                                  (
                                  none))
                                (
                                some (false, ())))
                              (
                              some (false, ())))
                            (
                            some (false, ())))
                          (
                          none))
                        (
                        none))
                      (
                      none))
                    (
                    none))
                  (
                  none))
                (
                none))
              (
              none))
            (
            none))
          (
          none))))

abbrev c_lodgelaw9_ConvOnes (N : Nat) : CallSpec := ⟨8, ps_lodgelaw9_ConvOnes, rs_lodgelaw9_ConvOnes, fun x => F_lodgelaw9_ConvOnes N x.1 x.2.1 x.2.2.1 x.2.2.2.1 x.2.2.2.2.1 x.2.2.2.2.2.1⟩

theorem cs_lodgelaw9_ConvOnes_ok (S : Nat → Addr) (N : Nat) : CallsOK Go.Proofs.Tryd.prog E S (cs_lodgelaw9_ConvOnes N) :=
  .cons (F_conv_Do_ok S N) (.cons (F_lodgeref_SameInts_ok S N) (.cons (F_lodgelaw9_first_ok S N) (.cons (F_lodgeworld_Number_ok S N) (.cons (F_lodgelaw9_tensor_ok S N) (.cons (F_lodgeref_Ints_ok S N) (.cons (F_tens_Clone_ok S N) (.cons (F_mat_Mul_ok S N) (.nil))))))))
theorem F_lodgelaw9_ConvOnes_ok (S : Nat → Addr) (N : Nat) : ∀ x y, (c_lodgelaw9_ConvOnes N).g x = some y → FCon Go.Proofs.Tryd.prog E S 8 ps_lodgelaw9_ConvOnes rs_lodgelaw9_ConvOnes x y := by
  intro x y h
  exact fun_spec E_ok mixed (cs_lodgelaw9_ConvOnes_ok S N) (f := 8) (fi := ⟨b_lodgelaw9_ConvOnes, 116, Go.Proofs.Tryd.f8.results.toList⟩) (by kernel_rfl) (ls := []) (.nil) (by kernel_rfl) (ps := ps_lodgelaw9_ConvOnes) (rs := rs_lodgelaw9_ConvOnes) (Eq.trans (b := F_lodgelaw9_ConvOnes N x.1 x.2.1 x.2.2.1 x.2.2.2.1 x.2.2.2.2.1 x.2.2.2.2.2.1) (by kernel_rfl) h)


end Go.Proofs.YtbpifndhkdbmhaaDoor.Lg
