/-
  The functions of the seat's program, as plain functions.
-/
import Derived.Test.YtmbcbocnncfpbaaDoorLgElemAE
namespace Go.Proofs.YtmbcbocnncfpbaaDoor.Lg
open Go Go.Eng Go.Proofs
set_option maxRecDepth 100000

/-! lodge/shape.Valid -/

abbrev ps_shape_Valid : List Ty := [(.st (.pair (.sl (.int .i64)) .bool))]
abbrev rs_shape_Valid : List Slot := [.data .err]
abbrev cs_shape_Valid (N : Nat) : List CallSpec := []
noncomputable abbrev b_shape_Valid : Code := (Go.Proofs.Tryd.f34.body).getD .skip

abbrev h_shape_Valid_0 : List Slot := [.dead, .box [.d (.st (.pair (.sl (.int .i64)) .bool))], .dead, .data (.int .i64), .dead, .dead, .dead, .dead, .dead, .dead, .dead, .dead, .dead, .dead, .data (.sl (.int .i64)), .data (.int .i64), .data (.int .i64), .dead, .dead, .dead, .dead, .dead, .dead, .dead, .dead, .dead, .dead, .dead, .dead, .dead, .dead, .dead, .dead, .dead, .dead, .dead, .dead, .dead, .dead, .dead, .dead, .dead]
abbrev e_shape_Valid_0 : List (AX × List Slot) := [(AX.exit 0, [.dead, .box [.d (.st (.pair (.sl (.int .i64)) .bool))], .dead, .data (.int .i64), .dead, .dead, .dead, .dead, .dead, .dead, .dead, .dead, .dead, .dead, .dead, .dead, .dead, .dead, .dead, .dead, .dead, .dead, .dead, .dead, .dead, .dead, .dead, .dead, .dead, .dead, .dead, .dead, .dead, .dead, .dead, .dead, .dead, .dead, .dead, .dead, .dead, .dead]), (AX.ret, [.dead, .dead, .data .err, .dead, .dead, .dead, .dead, .dead, .dead, .dead, .dead, .dead, .dead, .dead, .dead, .dead, .dead, .dead, .dead, .dead, .dead, .dead, .dead, .dead, .dead, .dead, .dead, .dead, .dead, .dead, .dead, .dead, .dead, .dead, .dead, .dead, .dead, .dead, .dead, .dead, .dead, .dead])]
def g_shape_Valid_0 (N : Nat) : Nat → ((List Int × Bool) × Unit) → Int → List Int → Int → Int → Option (Sum (((List Int × Bool) × Unit) × (Int × Unit)) (Er × Unit))
  | 0, _, _, _, _, _ => none
  | n + 1, d_1, n_3, t_14, t_15, t_16 =>
    cond (decide (t_16 < t_15))
      (
      cond (decide ((0 : Int) ≤ t_16))
        (
        cond (decide ((Int.toNat t_16) < (List.length t_14)))
          (
          cond (decide ((List.getD t_14 (Int.toNat t_16) (0 : Int)) < (1 : Int)))
            (
            some (Sum.inr ((Go.Eng.Er.s ErrRange), ())))
            (
            cond (decide ((256 : Int) < (List.getD t_14 (Int.toNat t_16) (0 : Int))))
              (
              some (Sum.inr ((Go.Eng.Er.s ErrRange), ())))
              (
              (g_shape_Valid_0 N n d_1 n_3 t_14 t_15 (wi64 (t_16 + (1 : Int)))))))
          (
          none))
        (
        none))
      (
      some (Sum.inl (d_1, (n_3, ()))))

abbrev h_shape_Valid_1 : List Slot := [.dead, .dead, .dead, .data (.int .i64), .dead, .dead, .dead, .dead, .dead, .dead, .dead, .dead, .dead, .dead, .dead, .dead, .dead, .dead, .dead, .dead, .dead, .dead, .dead, .dead, .dead, .dead, .dead, .dead, .dead, .data (.sl (.int .i64)), .data (.int .i64), .data (.int .i64), .dead, .dead, .dead, .dead, .dead, .dead, .dead, .dead, .dead, .dead]
abbrev e_shape_Valid_1 : List (AX × List Slot) := [(AX.exit 2, [.dead, .dead, .dead, .dead, .dead, .dead, .dead, .dead, .dead, .dead, .dead, .dead, .dead, .dead, .dead, .dead, .dead, .dead, .dead, .dead, .dead, .dead, .dead, .dead, .dead, .dead, .dead, .dead, .dead, .dead, .dead, .dead, .dead, .dead, .dead, .dead, .dead, .dead, .dead, .dead, .dead, .dead]), (AX.ret, [.dead, .dead, .data .err, .dead, .dead, .dead, .dead, .dead, .dead, .dead, .dead, .dead, .dead, .dead, .dead, .dead, .dead, .dead, .dead, .dead, .dead, .dead, .dead, .dead, .dead, .dead, .dead, .dead, .dead, .dead, .dead, .dead, .dead, .dead, .dead, .dead, .dead, .dead, .dead, .dead, .dead, .dead])]
def g_shape_Valid_1 (N : Nat) : Nat → Int → List Int → Int → Int → Option (Sum Unit (Er × Unit))
  | 0, _, _, _, _ => none
  | n + 1, n_3, t_29, t_30, t_31 =>
    cond (decide (t_31 < t_30))
      (
      cond (decide ((0 : Int) ≤ t_31))
        (
        cond (decide ((Int.toNat t_31) < (List.length t_29)))
          (
          cond (decide ((16384 : Int) < (wi64 (n_3 * (List.getD t_29 (Int.toNat t_31) (0 : Int))))))
            (
            some (Sum.inr ((Go.Eng.Er.s ErrMany), ())))
            (
            (g_shape_Valid_1 N n (wi64 (n_3 * (List.getD t_29 (Int.toNat t_31) (0 : Int)))) t_29 t_30 (wi64 (t_31 + (1 : Int))))))
          (
          none))
        (
        none))
      (
      some (Sum.inl ()))

def F_shape_Valid (N : Nat) (d_0 : (List Int × Bool)) : Option (Er × Unit) :=
  cond (decide ((4 : Int) < (Nat.cast (List.length (d_0).1) : Int)))
    (
    some ((Go.Eng.Er.s ErrMany), ()))
    (
    Option.bind (g_shape_Valid_0 N N (d_0, ()) (1 : Int) (d_0).1 (Nat.cast (List.length (d_0).1) : Int) (0 : Int)) fun y0 =>
    Sum.elim (fun y1 =>
      Option.bind (g_shape_Valid_1 N N ((y1).2).1 (((y1).1).1).1 (Nat.cast (List.length (((y1).1).1).1) : Int) (0 : Int)) fun y2 =>
      Sum.elim (fun y3 =>
        some (Go.Eng.Er.nil, ()))
        (fun y4 =>
        some y4) y2)
      (fun y5 =>
      some y5) y0)

abbrev c_shape_Valid (N : Nat) : CallSpec := ⟨34, ps_shape_Valid, rs_shape_Valid, fun x => F_shape_Valid N x.1⟩
abbrev l_shape_Valid_1 (N : Nat) : LoopSpec := ⟨1, h_shape_Valid_1, e_shape_Valid_1, fun x => g_shape_Valid_1 N N x.1 x.2.1 x.2.2.1 x.2.2.2.1⟩
abbrev l_shape_Valid_0 (N : Nat) : LoopSpec := ⟨0, h_shape_Valid_0, e_shape_Valid_0, fun x => g_shape_Valid_0 N N x.1 x.2.1 x.2.2.1 x.2.2.2.1 x.2.2.2.2.1⟩

theorem cs_shape_Valid_ok (S : Nat → Addr) (N : Nat) : CallsOK Go.Proofs.Tryd.prog E S (cs_shape_Valid N) :=
  .nil
noncomputable abbrev b_shape_Valid_1 : Code := (loopsOf b_shape_Valid).getD 1 .skip
theorem g_shape_Valid_1_ok (S : Nat → Addr) (N : Nat) : ∀ n x y, (fun (x : Val (slotsTy h_shape_Valid_1)) => g_shape_Valid_1 N n x.1 x.2.1 x.2.2.1 x.2.2.2.1) x = some y → LoopCon Go.Proofs.Tryd.prog E S b_shape_Valid_1 (encSlots h_shape_Valid_1 x) (encEx e_shape_Valid_1 y).1 (encEx e_shape_Valid_1 y).2 :=
  loop_spec E_ok mixed (cs_shape_Valid_ok S N) (all := loopsOf b_shape_Valid) (ls := []) (.nil) (i := 1) (by kernel_rfl) (inner_of (by kernel_rfl)) (head := h_shape_Valid_1) (ex := e_shape_Valid_1) (fun n (x : Val (slotsTy h_shape_Valid_1)) => g_shape_Valid_1 N n x.1 x.2.1 x.2.2.1 x.2.2.2.1) (fun _ => rfl) (fun n x => by kernel_rfl)
noncomputable abbrev b_shape_Valid_0 : Code := (loopsOf b_shape_Valid).getD 0 .skip
theorem g_shape_Valid_0_ok (S : Nat → Addr) (N : Nat) : ∀ n x y, (fun (x : Val (slotsTy h_shape_Valid_0)) => g_shape_Valid_0 N n x.1 x.2.1 x.2.2.1 x.2.2.2.1 x.2.2.2.2.1) x = some y → LoopCon Go.Proofs.Tryd.prog E S b_shape_Valid_0 (encSlots h_shape_Valid_0 x) (encEx e_shape_Valid_0 y).1 (encEx e_shape_Valid_0 y).2 :=
  loop_spec E_ok mixed (cs_shape_Valid_ok S N) (all := loopsOf b_shape_Valid) (ls := []) (.nil) (i := 0) (by kernel_rfl) (inner_of (by kernel_rfl)) (head := h_shape_Valid_0) (ex := e_shape_Valid_0) (fun n (x : Val (slotsTy h_shape_Valid_0)) => g_shape_Valid_0 N n x.1 x.2.1 x.2.2.1 x.2.2.2.1 x.2.2.2.2.1) (fun _ => rfl) (fun n x => by kernel_rfl)
theorem F_shape_Valid_ok (S : Nat → Addr) (N : Nat) : ∀ x y, (c_shape_Valid N).g x = some y → FCon Go.Proofs.Tryd.prog E S 34 ps_shape_Valid rs_shape_Valid x y := by
  intro x y h
  exact fun_spec E_ok mixed (cs_shape_Valid_ok S N) (f := 34) (fi := ⟨b_shape_Valid, 42, Go.Proofs.Tryd.f34.results.toList⟩) (by kernel_rfl) (ls := [l_shape_Valid_1 N, l_shape_Valid_0 N]) (.cons (by kernel_rfl) (g_shape_Valid_1_ok S N N) (.cons (by kernel_rfl) (g_shape_Valid_0_ok S N N) (.nil))) (by kernel_rfl) (ps := ps_shape_Valid) (rs := rs_shape_Valid) (Eq.trans (b := F_shape_Valid N x.1) (by kernel_rfl) h)

/-! lodge/shape.fair -/

abbrev ps_shape_fair : List Ty := [(.sl (.int .i64))]
abbrev rs_shape_fair : List Slot := [.data .bool]
abbrev cs_shape_fair (N : Nat) : List CallSpec := [c_shape_Valid N]
noncomputable abbrev b_shape_fair : Code := (Go.Proofs.Tryd.f79.body).getD .skip

def F_shape_fair (N : Nat) (shape_0 : List Int) : Option (Bool × Unit) :=
  Option.bind (F_shape_Valid N (shape_0, false)) fun y0 =>
  some ((Go.Eng.Er.isNil (y0).1), ())

abbrev c_shape_fair (N : Nat) : CallSpec := ⟨79, ps_shape_fair, rs_shape_fair, fun x => F_shape_fair N x.1⟩

theorem cs_shape_fair_ok (S : Nat → Addr) (N : Nat) : CallsOK Go.Proofs.Tryd.prog E S (cs_shape_fair N) :=
  .cons (F_shape_Valid_ok S N) (.nil)
theorem F_shape_fair_ok (S : Nat → Addr) (N : Nat) : ∀ x y, (c_shape_fair N).g x = some y → FCon Go.Proofs.Tryd.prog E S 79 ps_shape_fair rs_shape_fair x y := by
  intro x y h
  exact fun_spec E_ok mixed (cs_shape_fair_ok S N) (f := 79) (fi := ⟨b_shape_fair, 7, Go.Proofs.Tryd.f79.results.toList⟩) (by kernel_rfl) (ls := []) (.nil) (by kernel_rfl) (ps := ps_shape_fair) (rs := rs_shape_fair) (Eq.trans (b := F_shape_fair N x.1) (by kernel_rfl) h)

/-! lodge/shape.Elems -/

abbrev ps_shape_Elems : List Ty := [(.sl (.int .i64))]
abbrev rs_shape_Elems : List Slot := [.data (.int .i64)]
abbrev cs_shape_Elems (N : Nat) : List CallSpec := [c_shape_fair N]
noncomputable abbrev b_shape_Elems : Code := (Go.Proofs.Tryd.f61.body).getD .skip

abbrev h_shape_Elems_0 : List Slot := [.dead, .dead, .dead, .data (.int .i64), .dead, .dead, .dead, .dead, .dead, .data (.sl (.int .i64)), .data (.int .i64), .data (.int .i64), .dead, .dead, .dead, .dead, .dead, .dead, .dead, .dead]
abbrev e_shape_Elems_0 : List (AX × List Slot) := [(AX.exit 0, [.dead, .dead, .dead, .data (.int .i64), .dead, .dead, .dead, .dead, .dead, .dead, .dead, .dead, .dead, .dead, .dead, .dead, .dead, .dead, .dead, .dead])]
def g_shape_Elems_0 (N : Nat) : Nat → Int → List Int → Int → Int → Option (Int × Unit)
  | 0, _, _, _, _ => none
  | n + 1, n_3, t_9, t_10, t_11 =>
    cond (decide (t_11 < t_10))
      (
      cond (decide ((0 : Int) ≤ t_11))
        (
        cond (decide ((Int.toNat t_11) < (List.length t_9)))
          (
          (g_shape_Elems_0 N n (wi64 (n_3 * (List.getD t_9 (Int.toNat t_11) (0 : Int)))) t_9 t_10 (wi64 (t_11 + (1 : Int)))))
          (
          none))
        (
        none))
      (
      some (n_3, ()))

def F_shape_Elems (N : Nat) (shape_0 : List Int) : Option (Int × Unit) :=
  Option.bind (F_shape_fair N shape_0) fun y0 =>
  cond (Bool.not (y0).1)
    (
    some ((0 : Int), ()))
    (
    Option.bind (g_shape_Elems_0 N N (1 : Int) shape_0 (Nat.cast (List.length shape_0) : Int) (0 : Int)) fun y1 =>
    some y1)

abbrev c_shape_Elems (N : Nat) : CallSpec := ⟨61, ps_shape_Elems, rs_shape_Elems, fun x => F_shape_Elems N x.1⟩
abbrev l_shape_Elems_0 (N : Nat) : LoopSpec := ⟨0, h_shape_Elems_0, e_shape_Elems_0, fun x => g_shape_Elems_0 N N x.1 x.2.1 x.2.2.1 x.2.2.2.1⟩

theorem cs_shape_Elems_ok (S : Nat → Addr) (N : Nat) : CallsOK Go.Proofs.Tryd.prog E S (cs_shape_Elems N) :=
  .cons (F_shape_fair_ok S N) (.nil)
noncomputable abbrev b_shape_Elems_0 : Code := (loopsOf b_shape_Elems).getD 0 .skip
theorem g_shape_Elems_0_ok (S : Nat → Addr) (N : Nat) : ∀ n x y, (fun (x : Val (slotsTy h_shape_Elems_0)) => g_shape_Elems_0 N n x.1 x.2.1 x.2.2.1 x.2.2.2.1) x = some y → LoopCon Go.Proofs.Tryd.prog E S b_shape_Elems_0 (encSlots h_shape_Elems_0 x) (encEx e_shape_Elems_0 y).1 (encEx e_shape_Elems_0 y).2 :=
  loop_spec E_ok mixed (cs_shape_Elems_ok S N) (all := loopsOf b_shape_Elems) (ls := []) (.nil) (i := 0) (by kernel_rfl) (inner_of (by kernel_rfl)) (head := h_shape_Elems_0) (ex := e_shape_Elems_0) (fun n (x : Val (slotsTy h_shape_Elems_0)) => g_shape_Elems_0 N n x.1 x.2.1 x.2.2.1 x.2.2.2.1) (fun _ => rfl) (fun n x => by kernel_rfl)
theorem F_shape_Elems_ok (S : Nat → Addr) (N : Nat) : ∀ x y, (c_shape_Elems N).g x = some y → FCon Go.Proofs.Tryd.prog E S 61 ps_shape_Elems rs_shape_Elems x y := by
  intro x y h
  exact fun_spec E_ok mixed (cs_shape_Elems_ok S N) (f := 61) (fi := ⟨b_shape_Elems, 20, Go.Proofs.Tryd.f61.results.toList⟩) (by kernel_rfl) (ls := [l_shape_Elems_0 N]) (.cons (by kernel_rfl) (g_shape_Elems_0_ok S N N) (.nil)) (by kernel_rfl) (ps := ps_shape_Elems) (rs := rs_shape_Elems) (Eq.trans (b := F_shape_Elems N x.1) (by kernel_rfl) h)

/-! lodge/tens.fits -/

abbrev ps_tens_fits : List Ty := [(.int .i64), .bool]
abbrev rs_tens_fits : List Slot := [.data .bool]
abbrev cs_tens_fits (N : Nat) : List CallSpec := []
noncomputable abbrev b_tens_fits : Code := (Go.Proofs.Tryd.f62.body).getD .skip

def F_tens_fits (N : Nat) (n_0 : Int) (wide_1 : Bool) : Option (Bool × Unit) :=
  cond wide_1
    (
    cond (decide ((-(2147483648 : Int)) ≤ n_0))
      (
      some ((decide (n_0 ≤ (2147483647 : Int))), ()))
      (
      some (false, ())))
    (
    cond (decide ((-(128 : Int)) ≤ n_0))
      (
      some ((decide (n_0 ≤ (127 : Int))), ()))
      (
      some (false, ())))

abbrev c_tens_fits (N : Nat) : CallSpec := ⟨62, ps_tens_fits, rs_tens_fits, fun x => F_tens_fits N x.1 x.2.1⟩

theorem cs_tens_fits_ok (S : Nat → Addr) (N : Nat) : CallsOK Go.Proofs.Tryd.prog E S (cs_tens_fits N) :=
  .nil
theorem F_tens_fits_ok (S : Nat → Addr) (N : Nat) : ∀ x y, (c_tens_fits N).g x = some y → FCon Go.Proofs.Tryd.prog E S 62 ps_tens_fits rs_tens_fits x y := by
  intro x y h
  exact fun_spec E_ok mixed (cs_tens_fits_ok S N) (f := 62) (fi := ⟨b_tens_fits, 18, Go.Proofs.Tryd.f62.results.toList⟩) (by kernel_rfl) (ls := []) (.nil) (by kernel_rfl) (ps := ps_tens_fits) (rs := rs_tens_fits) (Eq.trans (b := F_tens_fits N x.1 x.2.1) (by kernel_rfl) h)

/-! lodge/tens.Valid -/

abbrev ps_tens_Valid : List Ty := [(.st (.pair (.st (.pair (.sl (.int .i64)) .bool)) (.sl (.int .i64))))]
abbrev rs_tens_Valid : List Slot := [.data .err]
abbrev cs_tens_Valid (N : Nat) : List CallSpec := [c_shape_Valid N, c_shape_Elems N, c_tens_fits N]
noncomputable abbrev b_tens_Valid : Code := (Go.Proofs.Tryd.f31.body).getD .skip

abbrev h_tens_Valid_0 : List Slot := [.dead, .box [.d (.st (.pair (.st (.pair (.sl (.int .i64)) .bool)) (.sl (.int .i64))))], .dead, .dead, .dead, .dead, .dead, .dead, .dead, .dead, .dead, .dead, .dead, .dead, .dead, .dead, .dead, .dead, .dead, .dead, .dead, .dead, .data (.sl (.int .i64)), .data (.int .i64), .data (.int .i64), .dead, .dead, .dead, .dead, .dead, .dead, .dead, .dead, .dead, .dead, .dead, .dead, .dead, .dead, .dead, .dead]
abbrev e_tens_Valid_0 : List (AX × List Slot) := [(AX.exit 0, [.dead, .dead, .dead, .dead, .dead, .dead, .dead, .dead, .dead, .dead, .dead, .dead, .dead, .dead, .dead, .dead, .dead, .dead, .dead, .dead, .dead, .dead, .dead, .dead, .dead, .dead, .dead, .dead, .dead, .dead, .dead, .dead, .dead, .dead, .dead, .dead, .dead, .dead, .dead, .dead, .dead]), (AX.ret, [.dead, .dead, .data .err, .dead, .dead, .dead, .dead, .dead, .dead, .dead, .dead, .dead, .dead, .dead, .dead, .dead, .dead, .dead, .dead, .dead, .dead, .dead, .dead, .dead, .dead, .dead, .dead, .dead, .dead, .dead, .dead, .dead, .dead, .dead, .dead, .dead, .dead, .dead, .dead, .dead, .dead])]
def g_tens_Valid_0 (N : Nat) : Nat → (((List Int × Bool) × List Int) × Unit) → List Int → Int → Int → Option (Sum Unit (Er × Unit))
  | 0, _, _, _, _ => none
  | n + 1, t_1, t_22, t_23, t_24 =>
    cond (decide (t_24 < t_23))
      (
      cond (decide ((0 : Int) ≤ t_24))
        (
        cond (decide ((Int.toNat t_24) < (List.length t_22)))
          (
          Option.bind (F_tens_fits N (List.getD t_22 (Int.toNat t_24) (0 : Int)) (((t_1).1).1).2) fun y3 =>
          cond (Bool.not (y3).1)
            (
            some (Sum.inr ((Go.Eng.Er.at t_24 ErrRange), ())))
            (
            (g_tens_Valid_0 N n t_1 t_22 t_23 (wi64 (t_24 + (1 : Int))))))
          (
          none))
        (
        none))
      (
      some (Sum.inl ()))

def F_tens_Valid (N : Nat) (t_0 : ((List Int × Bool) × List Int)) : Option (Er × Unit) :=
  Option.bind (F_shape_Valid N (t_0).1) fun y0 =>
  cond (Bool.not (Go.Eng.Er.isNil (y0).1))
    (
    some y0)
    (
    Option.bind (F_shape_Elems N ((t_0).1).1) fun y1 =>
    cond (decide (@Ne Int (Nat.cast (List.length (t_0).2) : Int) (y1).1))
      (
      some ((Go.Eng.Er.s ErrShape), ()))
      (
      Option.bind (g_tens_Valid_0 N N (t_0, ()) (t_0).2 (Nat.cast (List.length (t_0).2) : Int) (0 : Int)) fun y2 =>
      Sum.elim (fun y3 =>
        some (Go.Eng.Er.nil, ()))
        (fun y4 =>
        some y4) y2))

abbrev c_tens_Valid (N : Nat) : CallSpec := ⟨31, ps_tens_Valid, rs_tens_Valid, fun x => F_tens_Valid N x.1⟩
abbrev l_tens_Valid_0 (N : Nat) : LoopSpec := ⟨0, h_tens_Valid_0, e_tens_Valid_0, fun x => g_tens_Valid_0 N N x.1 x.2.1 x.2.2.1 x.2.2.2.1⟩

theorem cs_tens_Valid_ok (S : Nat → Addr) (N : Nat) : CallsOK Go.Proofs.Tryd.prog E S (cs_tens_Valid N) :=
  .cons (F_shape_Valid_ok S N) (.cons (F_shape_Elems_ok S N) (.cons (F_tens_fits_ok S N) (.nil)))
noncomputable abbrev b_tens_Valid_0 : Code := (loopsOf b_tens_Valid).getD 0 .skip
theorem g_tens_Valid_0_ok (S : Nat → Addr) (N : Nat) : ∀ n x y, (fun (x : Val (slotsTy h_tens_Valid_0)) => g_tens_Valid_0 N n x.1 x.2.1 x.2.2.1 x.2.2.2.1) x = some y → LoopCon Go.Proofs.Tryd.prog E S b_tens_Valid_0 (encSlots h_tens_Valid_0 x) (encEx e_tens_Valid_0 y).1 (encEx e_tens_Valid_0 y).2 :=
  loop_spec E_ok mixed (cs_tens_Valid_ok S N) (all := loopsOf b_tens_Valid) (ls := []) (.nil) (i := 0) (by kernel_rfl) (inner_of (by kernel_rfl)) (head := h_tens_Valid_0) (ex := e_tens_Valid_0) (fun n (x : Val (slotsTy h_tens_Valid_0)) => g_tens_Valid_0 N n x.1 x.2.1 x.2.2.1 x.2.2.2.1) (fun _ => rfl) (fun n x => by kernel_rfl)
theorem F_tens_Valid_ok (S : Nat → Addr) (N : Nat) : ∀ x y, (c_tens_Valid N).g x = some y → FCon Go.Proofs.Tryd.prog E S 31 ps_tens_Valid rs_tens_Valid x y := by
  intro x y h
  exact fun_spec E_ok mixed (cs_tens_Valid_ok S N) (f := 31) (fi := ⟨b_tens_Valid, 41, Go.Proofs.Tryd.f31.results.toList⟩) (by kernel_rfl) (ls := [l_tens_Valid_0 N]) (.cons (by kernel_rfl) (g_tens_Valid_0_ok S N N) (.nil)) (by kernel_rfl) (ps := ps_tens_Valid) (rs := rs_tens_Valid) (Eq.trans (b := F_tens_Valid N x.1) (by kernel_rfl) h)

/-! lodge/elem.counts -/

abbrev ps_elem_counts : List Ty := [(.int .i64)]
abbrev rs_elem_counts : List Slot := [.data (.int .i64), .data (.int .i64), .data .bool]
abbrev cs_elem_counts (N : Nat) : List CallSpec := []
noncomputable abbrev b_elem_counts : Code := (Go.Proofs.Tryd.f33.body).getD .skip

def F_elem_counts (N : Nat) (op_0 : Int) : Option (Int × (Int × (Bool × Unit))) :=
  cond (decide (op_0 = (4 : Int)))
    (
    some ((2 : Int), ((0 : Int), (true, ()))))
    (
    cond (decide (op_0 = (5 : Int)))
      (
      some ((2 : Int), ((0 : Int), (true, ()))))
      (
      cond (decide (op_0 = (6 : Int)))
        (
        some ((2 : Int), ((0 : Int), (true, ()))))
        (
        cond (decide (op_0 = (7 : Int)))
          (
          some ((2 : Int), ((0 : Int), (true, ()))))
          (
          cond (decide (op_0 = (8 : Int)))
            (
            some ((1 : Int), ((0 : Int), (true, ()))))
            (
            cond (decide (op_0 = (9 : Int)))
              (
              some ((1 : Int), ((2 : Int), (true, ()))))
              (
              cond (decide (op_0 = (10 : Int)))
                (
                some ((1 : Int), ((3 : Int), (true, ()))))
                (
                cond (decide (op_0 = (11 : Int)))
                  (
                  some ((1 : Int), ((1 : Int), (true, ()))))
                  (
                  some ((0 : Int), ((0 : Int), (false, ())))))))))))

abbrev c_elem_counts (N : Nat) : CallSpec := ⟨33, ps_elem_counts, rs_elem_counts, fun x => F_elem_counts N x.1⟩

theorem cs_elem_counts_ok (S : Nat → Addr) (N : Nat) : CallsOK Go.Proofs.Tryd.prog E S (cs_elem_counts N) :=
  .nil
theorem F_elem_counts_ok (S : Nat → Addr) (N : Nat) : ∀ x y, (c_elem_counts N).g x = some y → FCon Go.Proofs.Tryd.prog E S 33 ps_elem_counts rs_elem_counts x y := by
  intro x y h
  exact fun_spec E_ok mixed (cs_elem_counts_ok S N) (f := 33) (fi := ⟨b_elem_counts, 19, Go.Proofs.Tryd.f33.results.toList⟩) (by kernel_rfl) (ls := []) (.nil) (by kernel_rfl) (ps := ps_elem_counts) (rs := rs_elem_counts) (Eq.trans (b := F_elem_counts N x.1) (by kernel_rfl) h)

/-! slices.Equal[[]int,int] -/

abbrev ps_slices_Equal_int_int : List Ty := [(.sl (.int .i64)), (.sl (.int .i64))]
abbrev rs_slices_Equal_int_int : List Slot := [.data .bool]
abbrev cs_slices_Equal_int_int (N : Nat) : List CallSpec := []
noncomputable abbrev b_slices_Equal_int_int : Code := (Go.Proofs.Tryd.f60.body).getD .skip

abbrev h_slices_Equal_int_int_0 : List Slot := [.data (.sl (.int .i64)), .data (.sl (.int .i64)), .dead, .dead, .dead, .dead, .dead, .dead, .dead, .dead, .dead, .dead, .data (.int .i64), .data (.int .i64), .dead, .dead, .dead, .dead, .dead, .dead, .dead, .dead, .dead, .dead, .dead, .dead]
abbrev e_slices_Equal_int_int_0 : List (AX × List Slot) := [(AX.exit 0, [.dead, .dead, .dead, .dead, .dead, .dead, .dead, .dead, .dead, .dead, .dead, .dead, .dead, .dead, .dead, .dead, .dead, .dead, .dead, .dead, .dead, .dead, .dead, .dead, .dead, .dead]), (AX.ret, [.dead, .dead, .dead, .dead, .data .bool, .dead, .dead, .dead, .dead, .dead, .dead, .dead, .dead, .dead, .dead, .dead, .dead, .dead, .dead, .dead, .dead, .dead, .dead, .dead, .dead, .dead])]
def g_slices_Equal_int_int_0 (N : Nat) : Nat → List Int → List Int → Int → Int → Option (Sum Unit (Bool × Unit))
  | 0, _, _, _, _ => none
  | n + 1, s1_0, s2_1, t_12, t_13 =>
    cond (decide (t_13 < t_12))
      (
      cond (decide ((0 : Int) ≤ t_13))
        (
        cond (decide ((Int.toNat t_13) < (List.length s1_0)))
          (
          cond (decide ((0 : Int) ≤ t_13))
            (
            cond (decide ((Int.toNat t_13) < (List.length s2_1)))
              (
              cond (decide (@Ne Int (List.getD s1_0 (Int.toNat t_13) (0 : Int)) (List.getD s2_1 (Int.toNat t_13) (0 : Int))))
                (
                some (Sum.inr (false, ())))
                (
                (g_slices_Equal_int_int_0 N n s1_0 s2_1 t_12 (wi64 (t_13 + (1 : Int))))))
              (
              none))
            (
            none))
          (
          none))
        (
        none))
      (
      some (Sum.inl ()))

def F_slices_Equal_int_int (N : Nat) (s1_0 : List Int) (s2_1 : List Int) : Option (Bool × Unit) :=
  cond (decide (@Ne Int (Nat.cast (List.length s1_0) : Int) (Nat.cast (List.length s2_1) : Int)))
    (
    some (false, ()))
    (
    Option.bind (g_slices_Equal_int_int_0 N N s1_0 s2_1 (Nat.cast (List.length s1_0) : Int) (0 : Int)) fun y0 =>
    Sum.elim (fun y1 =>
      some (true, ()))
      (fun y2 =>
      some y2) y0)

abbrev c_slices_Equal_int_int (N : Nat) : CallSpec := ⟨60, ps_slices_Equal_int_int, rs_slices_Equal_int_int, fun x => F_slices_Equal_int_int N x.1 x.2.1⟩
abbrev l_slices_Equal_int_int_0 (N : Nat) : LoopSpec := ⟨0, h_slices_Equal_int_int_0, e_slices_Equal_int_int_0, fun x => g_slices_Equal_int_int_0 N N x.1 x.2.1 x.2.2.1 x.2.2.2.1⟩

theorem cs_slices_Equal_int_int_ok (S : Nat → Addr) (N : Nat) : CallsOK Go.Proofs.Tryd.prog E S (cs_slices_Equal_int_int N) :=
  .nil
noncomputable abbrev b_slices_Equal_int_int_0 : Code := (loopsOf b_slices_Equal_int_int).getD 0 .skip
theorem g_slices_Equal_int_int_0_ok (S : Nat → Addr) (N : Nat) : ∀ n x y, (fun (x : Val (slotsTy h_slices_Equal_int_int_0)) => g_slices_Equal_int_int_0 N n x.1 x.2.1 x.2.2.1 x.2.2.2.1) x = some y → LoopCon Go.Proofs.Tryd.prog E S b_slices_Equal_int_int_0 (encSlots h_slices_Equal_int_int_0 x) (encEx e_slices_Equal_int_int_0 y).1 (encEx e_slices_Equal_int_int_0 y).2 :=
  loop_spec E_ok mixed (cs_slices_Equal_int_int_ok S N) (all := loopsOf b_slices_Equal_int_int) (ls := []) (.nil) (i := 0) (by kernel_rfl) (inner_of (by kernel_rfl)) (head := h_slices_Equal_int_int_0) (ex := e_slices_Equal_int_int_0) (fun n (x : Val (slotsTy h_slices_Equal_int_int_0)) => g_slices_Equal_int_int_0 N n x.1 x.2.1 x.2.2.1 x.2.2.2.1) (fun _ => rfl) (fun n x => by kernel_rfl)
theorem F_slices_Equal_int_int_ok (S : Nat → Addr) (N : Nat) : ∀ x y, (c_slices_Equal_int_int N).g x = some y → FCon Go.Proofs.Tryd.prog E S 60 ps_slices_Equal_int_int rs_slices_Equal_int_int x y := by
  intro x y h
  exact fun_spec E_ok mixed (cs_slices_Equal_int_int_ok S N) (f := 60) (fi := ⟨b_slices_Equal_int_int, 26, Go.Proofs.Tryd.f60.results.toList⟩) (by kernel_rfl) (ls := [l_slices_Equal_int_int_0 N]) (.cons (by kernel_rfl) (g_slices_Equal_int_int_0_ok S N N) (.nil)) (by kernel_rfl) (ps := ps_slices_Equal_int_int) (rs := rs_slices_Equal_int_int) (Eq.trans (b := F_slices_Equal_int_int N x.1 x.2.1) (by kernel_rfl) h)

/-! lodge/shape.Same -/

abbrev ps_shape_Same : List Ty := [(.st (.pair (.sl (.int .i64)) .bool)), (.st (.pair (.sl (.int .i64)) .bool))]
abbrev rs_shape_Same : List Slot := [.data .bool]
abbrev cs_shape_Same (N : Nat) : List CallSpec := [c_slices_Equal_int_int N]
noncomputable abbrev b_shape_Same : Code := (Go.Proofs.Tryd.f35.body).getD .skip

def F_shape_Same (N : Nat) (a_0 : (List Int × Bool)) (b_1 : (List Int × Bool)) : Option (Bool × Unit) :=
  cond ((a_0).2 == (b_1).2)
    (
    Option.bind (F_slices_Equal_int_int N (a_0).1 (b_1).1) fun y0 =>
    some y0)
    (
    some (false, ()))

abbrev c_shape_Same (N : Nat) : CallSpec := ⟨35, ps_shape_Same, rs_shape_Same, fun x => F_shape_Same N x.1 x.2.1⟩

theorem cs_shape_Same_ok (S : Nat → Addr) (N : Nat) : CallsOK Go.Proofs.Tryd.prog E S (cs_shape_Same N) :=
  .cons (F_slices_Equal_int_int_ok S N) (.nil)
theorem F_shape_Same_ok (S : Nat → Addr) (N : Nat) : ∀ x y, (c_shape_Same N).g x = some y → FCon Go.Proofs.Tryd.prog E S 35 ps_shape_Same rs_shape_Same x y := by
  intro x y h
  exact fun_spec E_ok mixed (cs_shape_Same_ok S N) (f := 35) (fi := ⟨b_shape_Same, 17, Go.Proofs.Tryd.f35.results.toList⟩) (by kernel_rfl) (ls := []) (.nil) (by kernel_rfl) (ps := ps_shape_Same) (rs := rs_shape_Same) (Eq.trans (b := F_shape_Same N x.1 x.2.1) (by kernel_rfl) h)

/-! lodge/elem.in -/

abbrev ps_elem_in : List Ty := [(.int .i64), (.int .i64), (.int .i64)]
abbrev rs_elem_in : List Slot := [.data .bool]
abbrev cs_elem_in (N : Nat) : List CallSpec := []
noncomputable abbrev b_elem_in : Code := (Go.Proofs.Tryd.f37.body).getD .skip

def F_elem_in (N : Nat) (n_0 : Int) (from_1 : Int) (to_2 : Int) : Option (Bool × Unit) :=
  cond (decide (from_1 ≤ n_0))
    (
    some ((decide (n_0 ≤ to_2)), ()))
    (
    some (false, ()))

abbrev c_elem_in (N : Nat) : CallSpec := ⟨37, ps_elem_in, rs_elem_in, fun x => F_elem_in N x.1 x.2.1 x.2.2.1⟩

theorem cs_elem_in_ok (S : Nat → Addr) (N : Nat) : CallsOK Go.Proofs.Tryd.prog E S (cs_elem_in N) :=
  .nil
theorem F_elem_in_ok (S : Nat → Addr) (N : Nat) : ∀ x y, (c_elem_in N).g x = some y → FCon Go.Proofs.Tryd.prog E S 37 ps_elem_in rs_elem_in x y := by
  intro x y h
  exact fun_spec E_ok mixed (cs_elem_in_ok S N) (f := 37) (fi := ⟨b_elem_in, 15, Go.Proofs.Tryd.f37.results.toList⟩) (by kernel_rfl) (ls := []) (.nil) (by kernel_rfl) (ps := ps_elem_in) (rs := rs_elem_in) (Eq.trans (b := F_elem_in N x.1 x.2.1 x.2.2.1) (by kernel_rfl) h)

/-! lodge/elem.of -/

abbrev ps_elem_of : List Ty := [(.int .i64), .bool]
abbrev rs_elem_of : List Slot := [.data .bool]
abbrev cs_elem_of (N : Nat) : List CallSpec := [c_elem_in N]
noncomputable abbrev b_elem_of : Code := (Go.Proofs.Tryd.f36.body).getD .skip

def F_elem_of (N : Nat) (n_0 : Int) (wide_1 : Bool) : Option (Bool × Unit) :=
  cond wide_1
    (
    Option.bind (F_elem_in N n_0 (-(2147483648 : Int)) (2147483647 : Int)) fun y0 =>
    some y0)
    (
    Option.bind (F_elem_in N n_0 (-(128 : Int)) (127 : Int)) fun y1 =>
    some y1)

abbrev c_elem_of (N : Nat) : CallSpec := ⟨36, ps_elem_of, rs_elem_of, fun x => F_elem_of N x.1 x.2.1⟩

theorem cs_elem_of_ok (S : Nat → Addr) (N : Nat) : CallsOK Go.Proofs.Tryd.prog E S (cs_elem_of N) :=
  .cons (F_elem_in_ok S N) (.nil)
theorem F_elem_of_ok (S : Nat → Addr) (N : Nat) : ∀ x y, (c_elem_of N).g x = some y → FCon Go.Proofs.Tryd.prog E S 36 ps_elem_of rs_elem_of x y := by
  intro x y h
  exact fun_spec E_ok mixed (cs_elem_of_ok S N) (f := 36) (fi := ⟨b_elem_of, 10, Go.Proofs.Tryd.f36.results.toList⟩) (by kernel_rfl) (ls := []) (.nil) (by kernel_rfl) (ps := ps_elem_of) (rs := rs_elem_of) (Eq.trans (b := F_elem_of N x.1 x.2.1) (by kernel_rfl) h)

/-! slices.Clone[[]int,int] -/

abbrev ps_slices_Clone_int_int : List Ty := [(.sl (.int .i64))]
abbrev rs_slices_Clone_int_int : List Slot := [.sl (.int .i64)]
abbrev cs_slices_Clone_int_int (N : Nat) : List CallSpec := []
noncomputable abbrev b_slices_Clone_int_int : Code := (Go.Proofs.Tryd.f63.body).getD .skip

def F_slices_Clone_int_int (N : Nat) (s_0 : List Int) : Option (List Int × Unit) :=
  cond (decide ((((0 : Nat) + (List.length s_0)) * (8 + (1 : Nat))) ≤ Go.Eng.most))
    (
    cond (decide (((0 : Nat) + (List.length s_0)) = (List.length (([] : List Int) ++ s_0))))
      (
      some ((([] : List Int) ++ s_0), ()))
      (
      none))
    (
    none)

abbrev c_slices_Clone_int_int (N : Nat) : CallSpec := ⟨63, ps_slices_Clone_int_int, rs_slices_Clone_int_int, fun x => F_slices_Clone_int_int N x.1⟩

theorem cs_slices_Clone_int_int_ok (S : Nat → Addr) (N : Nat) : CallsOK Go.Proofs.Tryd.prog E S (cs_slices_Clone_int_int N) :=
  .nil
theorem F_slices_Clone_int_int_ok (S : Nat → Addr) (N : Nat) : ∀ x y, (c_slices_Clone_int_int N).g x = some y → FCon Go.Proofs.Tryd.prog E S 63 ps_slices_Clone_int_int rs_slices_Clone_int_int x y := by
  intro x y h
  exact nil_spec E_ok mixed (f := 63) (fi := ⟨b_slices_Clone_int_int, 8, Go.Proofs.Tryd.f63.results.toList⟩) (by kernel_rfl) (by kernel_rfl) (t := (.int .i64)) (l := x.1) (rs := rs_slices_Clone_int_int) (y := y) (Eq.trans (b := F_slices_Clone_int_int N x.1) (by kernel_rfl) h) (fun hl => by
    have h' : F_slices_Clone_int_int N x.1 = some y := h
    rw [hl] at h'
    exact (show funKA E [] [] ⟨b_slices_Clone_int_int, 8, Go.Proofs.Tryd.f63.results.toList⟩ [.v (.slice none 0 0)] rs_slices_Clone_int_int = some ([], ()) by kernel_rfl).trans ((show F_slices_Clone_int_int N [] = some ([], ()) by kernel_rfl).symm.trans h'))

/-! lodge/shape.Clone -/

abbrev ps_shape_Clone : List Ty := [(.st (.pair (.sl (.int .i64)) .bool))]
abbrev rs_shape_Clone : List Slot := [.ag [.sl (.int .i64), .d .bool]]
abbrev cs_shape_Clone (N : Nat) : List CallSpec := [c_slices_Clone_int_int N]
noncomputable abbrev b_shape_Clone : Code := (Go.Proofs.Tryd.f38.body).getD .skip

def F_shape_Clone (N : Nat) (d_0 : (List Int × Bool)) : Option ((List Int × (Bool × Unit)) × Unit) :=
  Option.bind (F_slices_Clone_int_int N (d_0).1) fun y0 =>
  cond (decide ((List.length (y0).1) = (List.length (y0).1)))
    (
    some (((y0).1, ((d_0).2, ())), ()))
    (
    none)

abbrev c_shape_Clone (N : Nat) : CallSpec := ⟨38, ps_shape_Clone, rs_shape_Clone, fun x => F_shape_Clone N x.1⟩

theorem cs_shape_Clone_ok (S : Nat → Addr) (N : Nat) : CallsOK Go.Proofs.Tryd.prog E S (cs_shape_Clone N) :=
  .cons (F_slices_Clone_int_int_ok S N) (.nil)
theorem F_shape_Clone_ok (S : Nat → Addr) (N : Nat) : ∀ x y, (c_shape_Clone N).g x = some y → FCon Go.Proofs.Tryd.prog E S 38 ps_shape_Clone rs_shape_Clone x y := by
  intro x y h
  exact fun_spec E_ok mixed (cs_shape_Clone_ok S N) (f := 38) (fi := ⟨b_shape_Clone, 9, Go.Proofs.Tryd.f38.results.toList⟩) (by kernel_rfl) (ls := []) (.nil) (by kernel_rfl) (ps := ps_shape_Clone) (rs := rs_shape_Clone) (Eq.trans (b := F_shape_Clone N x.1) (by kernel_rfl) h)

/-! lodge/elem.Result -/

abbrev ps_elem_Result : List Ty := [(.int .i64), (.sl (.int .i64)), (.sl (.st (.pair (.sl (.int .i64)) .bool)))]
abbrev rs_elem_Result : List Slot := [.ag [.sl (.int .i64), .d .bool], .data .err]
abbrev cs_elem_Result (N : Nat) : List CallSpec := [c_shape_Valid N, c_elem_counts N, c_shape_Same N, c_elem_in N, c_elem_of N, c_shape_Clone N]
noncomputable abbrev b_elem_Result : Code := (Go.Proofs.Tryd.f11.body).getD .skip

abbrev h_elem_Result_0 : List Slot := [.data (.int .i64), .data (.sl (.int .i64)), .data (.sl (.st (.pair (.sl (.int .i64)) .bool))), .dead, .dead, .dead, .box [.sl (.int .i64), .d .bool], .dead, .data (.int .i64), .dead, .dead, .dead, .dead, .dead, .dead, .dead, .dead, .dead, .dead, .dead, .dead, .dead, .dead, .dead, .dead, .dead, .dead, .dead, .dead, .dead, .dead, .dead, .dead, .dead, .dead, .dead, .dead, .dead, .dead, .dead, .data (.sl (.st (.pair (.sl (.int .i64)) .bool))), .data (.int .i64), .data (.int .i64), .dead, .dead, .dead, .dead, .dead, .dead, .dead, .dead, .dead, .dead, .dead, .dead, .dead, .dead, .dead, .dead, .dead, .dead, .dead, .dead, .dead, .dead, .dead, .dead, .dead, .dead, .dead, .dead, .dead, .dead, .dead, .dead, .dead, .dead, .dead, .dead, .dead, .dead, .dead, .dead, .dead, .dead, .dead, .dead, .dead, .dead, .dead, .dead, .dead, .dead, .dead, .dead, .dead, .dead, .dead, .dead, .dead, .dead, .dead, .dead, .dead, .dead, .dead, .dead, .dead, .dead, .dead, .dead, .dead, .dead, .dead, .dead, .dead, .dead, .dead, .dead, .dead, .dead, .dead, .dead, .dead, .dead, .dead, .dead, .dead, .dead, .dead, .dead, .dead, .dead, .dead, .dead, .dead, .dead, .dead, .dead, .dead, .dead, .dead, .dead, .dead, .dead, .dead]
abbrev e_elem_Result_0 : List (AX × List Slot) := [(AX.exit 0, [.data (.int .i64), .data (.sl (.int .i64)), .data (.sl (.st (.pair (.sl (.int .i64)) .bool))), .dead, .dead, .dead, .box [.sl (.int .i64), .d .bool], .dead, .data (.int .i64), .dead, .dead, .dead, .dead, .dead, .dead, .dead, .dead, .dead, .dead, .dead, .dead, .dead, .dead, .dead, .dead, .dead, .dead, .dead, .dead, .dead, .dead, .dead, .dead, .dead, .dead, .dead, .dead, .dead, .dead, .dead, .dead, .dead, .dead, .dead, .dead, .dead, .dead, .dead, .dead, .dead, .dead, .dead, .dead, .dead, .dead, .dead, .dead, .dead, .dead, .dead, .dead, .dead, .dead, .dead, .dead, .dead, .dead, .dead, .dead, .dead, .dead, .dead, .dead, .dead, .dead, .dead, .dead, .dead, .dead, .dead, .dead, .dead, .dead, .dead, .dead, .dead, .dead, .dead, .dead, .dead, .dead, .dead, .dead, .dead, .dead, .dead, .dead, .dead, .dead, .dead, .dead, .dead, .dead, .dead, .dead, .dead, .dead, .dead, .dead, .dead, .dead, .dead, .dead, .dead, .dead, .dead, .dead, .dead, .dead, .dead, .dead, .dead, .dead, .dead, .dead, .dead, .dead, .dead, .dead, .dead, .dead, .dead, .dead, .dead, .dead, .dead, .dead, .dead, .dead, .dead, .dead, .dead, .dead, .dead, .dead, .dead]), (AX.ret, [.dead, .dead, .dead, .dead, .dead, .dead, .box [.sl (.int .i64), .d .bool], .data .err, .dead, .dead, .dead, .dead, .dead, .dead, .dead, .dead, .dead, .dead, .dead, .dead, .dead, .dead, .dead, .dead, .dead, .dead, .dead, .dead, .dead, .dead, .dead, .dead, .dead, .dead, .dead, .dead, .dead, .dead, .dead, .dead, .dead, .dead, .dead, .dead, .dead, .dead, .dead, .dead, .dead, .dead, .dead, .dead, .dead, .dead, .dead, .dead, .dead, .dead, .dead, .dead, .dead, .dead, .dead, .dead, .dead, .dead, .dead, .dead, .dead, .dead, .dead, .dead, .dead, .dead, .dead, .dead, .dead, .dead, .dead, .dead, .dead, .dead, .dead, .dead, .dead, .dead, .dead, .dead, .dead, .dead, .dead, .dead, .dead, .dead, .dead, .dead, .dead, .dead, .dead, .dead, .dead, .dead, .dead, .dead, .dead, .dead, .dead, .dead, .dead, .dead, .dead, .dead, .dead, .dead, .dead, .dead, .dead, .dead, .dead, .dead, .dead, .dead, .dead, .dead, .dead, .dead, .dead, .dead, .dead, .dead, .dead, .dead, .dead, .dead, .dead, .dead, .dead, .dead, .dead, .dead, .dead, .dead, .dead, .dead, .dead, .dead])]
def g_elem_Result_0 (N : Nat) : Nat → Int → List Int → List ((List Int × Bool)) → (List Int × (Bool × Unit)) → Int → List ((List Int × Bool)) → Int → Int → Option (Sum (Int × (List Int × (List ((List Int × Bool)) × ((List Int × (Bool × Unit)) × (Int × Unit))))) ((List Int × (Bool × Unit)) × (Er × Unit)))
  | 0, _, _, _, _, _, _, _, _ => none
  | n + 1, op_0, args_1, ins_2, t_6, k_8, t_40, t_41, t_42 =>
    cond (decide (t_42 < t_41))
      (
      cond (decide ((0 : Int) ≤ t_42))
        (
        cond (decide ((Int.toNat t_42) < (List.length t_40)))
          (
          Option.bind (F_shape_Valid N (List.getD t_40 (Int.toNat t_42) (([] : List Int), false))) fun y3 =>
          cond (Bool.not (Go.Eng.Er.isNil (y3).1))
            (
            some (Sum.inr ((([] : List Int), (false, ())), y3)))
            (
            cond (decide ((List.length (t_6).1) = (List.length (t_6).1)))
              (
              (g_elem_Result_0 N n op_0 args_1 ins_2 t_6 k_8 t_40 t_41 (wi64 (t_42 + (1 : Int)))))
              (
              none)))
          (
          none))
        (
        none))
      (
      cond (decide ((List.length (t_6).1) = (List.length (t_6).1)))
        (
        some (Sum.inl (op_0, (args_1, (ins_2, (t_6, (k_8, ())))))))
        (
        none))

abbrev j_elem_Result : Joins := [(15, [(AX.normal, [.dead, .dead, .dead, .dead, .dead, .dead, .box [.sl (.int .i64), .d .bool], .dead, .dead, .dead, .dead, .dead, .dead, .dead, .box [.d (.st (.pair (.sl (.int .i64)) .bool))], .data .bool, .data .bool, .dead, .dead, .dead, .dead, .dead, .dead, .dead, .dead, .dead, .dead, .dead, .dead, .dead, .dead, .dead, .dead, .dead, .dead, .dead, .dead, .dead, .dead, .dead, .dead, .dead, .dead, .dead, .dead, .dead, .dead, .dead, .dead, .dead, .dead, .dead, .dead, .dead, .dead, .dead, .dead, .dead, .dead, .dead, .dead, .dead, .dead, .dead, .dead, .dead, .dead, .dead, .dead, .dead, .dead, .dead, .dead, .dead, .dead, .dead, .dead, .dead, .dead, .dead, .dead, .dead, .dead, .dead, .dead, .dead, .dead, .dead, .dead, .dead, .dead, .dead, .dead, .dead, .dead, .dead, .dead, .dead, .dead, .dead, .dead, .dead, .dead, .dead, .dead, .dead, .dead, .dead, .dead, .dead, .dead, .dead, .dead, .dead, .dead, .dead, .dead, .dead, .dead, .dead, .dead, .dead, .dead, .dead, .dead, .dead, .dead, .dead, .dead, .dead, .dead, .dead, .dead, .dead, .dead, .dead, .dead, .dead, .dead, .dead, .dead, .dead, .dead, .dead, .dead, .dead])]),
  (12, [(AX.normal, [.data (.int .i64), .data (.sl (.int .i64)), .dead, .dead, .dead, .dead, .box [.sl (.int .i64), .d .bool], .dead, .dead, .dead, .dead, .dead, .dead, .dead, .box [.d (.st (.pair (.sl (.int .i64)) .bool))], .dead, .dead, .dead, .dead, .dead, .dead, .dead, .dead, .dead, .dead, .dead, .dead, .dead, .dead, .dead, .dead, .dead, .dead, .dead, .dead, .dead, .dead, .dead, .dead, .dead, .dead, .dead, .dead, .dead, .dead, .dead, .dead, .dead, .dead, .dead, .dead, .dead, .dead, .dead, .dead, .dead, .dead, .dead, .dead, .dead, .dead, .dead, .dead, .dead, .dead, .dead, .dead, .dead, .dead, .dead, .dead, .dead, .dead, .dead, .dead, .dead, .dead, .dead, .dead, .dead, .dead, .dead, .data .bool, .dead, .dead, .dead, .dead, .dead, .dead, .dead, .dead, .dead, .dead, .dead, .dead, .dead, .dead, .dead, .dead, .dead, .dead, .dead, .dead, .dead, .dead, .dead, .dead, .dead, .dead, .dead, .dead, .dead, .dead, .dead, .dead, .dead, .dead, .dead, .dead, .dead, .dead, .dead, .dead, .dead, .dead, .dead, .dead, .dead, .dead, .dead, .dead, .dead, .dead, .dead, .dead, .dead, .dead, .dead, .dead, .dead, .dead, .dead, .dead, .dead, .dead, .dead])]),
  (6, [(AX.normal, [.data (.int .i64), .data (.sl (.int .i64)), .data (.sl (.st (.pair (.sl (.int .i64)) .bool))), .dead, .dead, .dead, .box [.sl (.int .i64), .d .bool], .dead, .data (.int .i64), .dead, .dead, .dead, .dead, .dead, .dead, .dead, .dead, .dead, .dead, .dead, .dead, .dead, .dead, .dead, .dead, .dead, .dead, .dead, .dead, .dead, .dead, .dead, .dead, .dead, .dead, .dead, .dead, .data .bool, .dead, .dead, .dead, .dead, .dead, .dead, .dead, .dead, .dead, .dead, .dead, .dead, .dead, .dead, .dead, .dead, .dead, .dead, .dead, .dead, .dead, .dead, .dead, .dead, .dead, .dead, .dead, .dead, .dead, .dead, .dead, .dead, .dead, .dead, .dead, .dead, .dead, .dead, .dead, .dead, .dead, .dead, .dead, .dead, .dead, .dead, .dead, .dead, .dead, .dead, .dead, .dead, .dead, .dead, .dead, .dead, .dead, .dead, .dead, .dead, .dead, .dead, .dead, .dead, .dead, .dead, .dead, .dead, .dead, .dead, .dead, .dead, .dead, .dead, .dead, .dead, .dead, .dead, .dead, .dead, .dead, .dead, .dead, .dead, .dead, .dead, .dead, .dead, .dead, .dead, .dead, .dead, .dead, .dead, .dead, .dead, .dead, .dead, .dead, .dead, .dead, .dead, .dead, .dead, .dead, .dead, .dead, .dead])])]
def F_elem_Result (N : Nat) (op_0 : Int) (args_1 : List Int) (ins_2 : List ((List Int × Bool))) : Option ((List Int × (Bool × Unit)) × (Er × Unit)) :=
  Option.bind (F_elem_counts N op_0) fun y0 =>
  cond (Bool.not (((y0).2).2).1)
    (
    some ((([] : List Int), (false, ())), ((Go.Eng.Er.s ErrKind), ())))
    (
    Option.bind (
        cond (decide (@Ne Int (Nat.cast (List.length args_1) : Int) ((y0).2).1))
          (
          some (op_0, (args_1, (ins_2, ((([] : List Int), (false, ())), ((y0).1, (true, ())))))))
          (
          some (op_0, (args_1, (ins_2, ((([] : List Int), (false, ())), ((y0).1, ((decide (@Ne Int (Nat.cast (List.length ins_2) : Int) (y0).1)), ())))))))) fun y1 =>
    cond ((((((y1).2).2).2).2).2).1
      (
      some ((([] : List Int), (false, ())), ((Go.Eng.Er.s ErrShape), ())))
      (
      cond (decide ((List.length (((((y1).2).2).2).1).1) = (List.length (((((y1).2).2).2).1).1)))
        (
        Option.bind (g_elem_Result_0 N N (y1).1 ((y1).2).1 (((y1).2).2).1 ((((y1).2).2).2).1 (((((y1).2).2).2).2).1 (((y1).2).2).1 (Nat.cast (List.length (((y1).2).2).1) : Int) (0 : Int)) fun y2 =>
        Sum.elim (fun y3 =>
          cond (decide (0 < (List.length (((y3).2).2).1)))
            (
            Option.bind (
                cond (decide ((((((y3).2).2).2).2).1 = (2 : Int)))
                  (
                  cond (decide (1 < (List.length (((y3).2).2).1)))
                    (
                    Option.bind (F_shape_Same N (List.getD (((y3).2).2).1 0 (([] : List Int), false)) (List.getD (((y3).2).2).1 1 (([] : List Int), false))) fun y4 =>
                    cond (Bool.not (y4).1)
                      (
                      cond (decide ((List.length (((((y3).2).2).2).1).1) = (List.length (((((y3).2).2).2).1).1)))
                        (
                        some ((y3).1, (((y3).2).1, (((((y3).2).2).2).1, (((List.getD (((y3).2).2).1 0 (([] : List Int), false)), ()), (true, ()))))))
                        (
                        none))
                      (
                      cond (decide ((y3).1 = (10 : Int)))
                        (
                        cond (Bool.not ((List.getD (((y3).2).2).1 0 (([] : List Int), false))).2)
                          (
                          cond (decide ((List.length (((((y3).2).2).2).1).1) = (List.length (((((y3).2).2).2).1).1)))
                            (
                            some ((y3).1, (((y3).2).1, (((((y3).2).2).2).1, (((List.getD (((y3).2).2).1 0 (([] : List Int), false)), ()), (true, ()))))))
                            (
                            none))
                          (
                          cond (decide ((y3).1 = (11 : Int)))
                            (
                            cond (decide ((List.length (((((y3).2).2).2).1).1) = (List.length (((((y3).2).2).2).1).1)))
                              (
                              some ((y3).1, (((y3).2).1, (((((y3).2).2).2).1, (((List.getD (((y3).2).2).1 0 (([] : List Int), false)), ()), (((List.getD (((y3).2).2).1 0 (([] : List Int), false))).2, ()))))))
                              (
                              none))
                            (
                            cond (decide ((List.length (((((y3).2).2).2).1).1) = (List.length (((((y3).2).2).2).1).1)))
                              (
                              some ((y3).1, (((y3).2).1, (((((y3).2).2).2).1, (((List.getD (((y3).2).2).1 0 (([] : List Int), false)), ()), (false, ()))))))
                              (
                              none))))
                        (
                        cond (decide ((y3).1 = (11 : Int)))
                          (
                          cond (decide ((List.length (((((y3).2).2).2).1).1) = (List.length (((((y3).2).2).2).1).1)))
                            (
                            some ((y3).1, (((y3).2).1, (((((y3).2).2).2).1, (((List.getD (((y3).2).2).1 0 (([] : List Int), false)), ()), (((List.getD (((y3).2).2).1 0 (([] : List Int), false))).2, ()))))))
                            (
                            none))
                          (
                          cond (decide ((List.length (((((y3).2).2).2).1).1) = (List.length (((((y3).2).2).2).1).1)))
                            (
                            some ((y3).1, (((y3).2).1, (((((y3).2).2).2).1, (((List.getD (((y3).2).2).1 0 (([] : List Int), false)), ()), (false, ()))))))
                            (
                            none)))))
                    (
                    none))
                  (
                  cond (decide ((y3).1 = (10 : Int)))
                    (
                    cond (Bool.not ((List.getD (((y3).2).2).1 0 (([] : List Int), false))).2)
                      (
                      cond (decide ((List.length (((((y3).2).2).2).1).1) = (List.length (((((y3).2).2).2).1).1)))
                        (
                        some ((y3).1, (((y3).2).1, (((((y3).2).2).2).1, (((List.getD (((y3).2).2).1 0 (([] : List Int), false)), ()), (true, ()))))))
                        (
                        none))
                      (
                      cond (decide ((y3).1 = (11 : Int)))
                        (
                        cond (decide ((List.length (((((y3).2).2).2).1).1) = (List.length (((((y3).2).2).2).1).1)))
                          (
                          some ((y3).1, (((y3).2).1, (((((y3).2).2).2).1, (((List.getD (((y3).2).2).1 0 (([] : List Int), false)), ()), (((List.getD (((y3).2).2).1 0 (([] : List Int), false))).2, ()))))))
                          (
                          none))
                        (
                        cond (decide ((List.length (((((y3).2).2).2).1).1) = (List.length (((((y3).2).2).2).1).1)))
                          (
                          some ((y3).1, (((y3).2).1, (((((y3).2).2).2).1, (((List.getD (((y3).2).2).1 0 (([] : List Int), false)), ()), (false, ()))))))
                          (
                          none))))
                    (
                    cond (decide ((y3).1 = (11 : Int)))
                      (
                      cond (decide ((List.length (((((y3).2).2).2).1).1) = (List.length (((((y3).2).2).2).1).1)))
                        (
                        some ((y3).1, (((y3).2).1, (((((y3).2).2).2).1, (((List.getD (((y3).2).2).1 0 (([] : List Int), false)), ()), (((List.getD (((y3).2).2).1 0 (([] : List Int), false))).2, ()))))))
                        (
                        none))
                      (
                      cond (decide ((List.length (((((y3).2).2).2).1).1) = (List.length (((((y3).2).2).2).1).1)))
                        (
                        some ((y3).1, (((y3).2).1, (((((y3).2).2).2).1, (((List.getD (((y3).2).2).1 0 (([] : List Int), false)), ()), (false, ()))))))
                        (
                        none))))) fun y5 =>
            cond (((((y5).2).2).2).2).1
              (
              some ((([] : List Int), (false, ())), ((Go.Eng.Er.s ErrShape), ())))
              (
              Option.bind (
                  cond (decide ((y5).1 = (9 : Int)))
                    (
                    cond (decide (0 < (List.length ((y5).2).1)))
                      (
                      cond (decide (1 < (List.length ((y5).2).1)))
                        (
                        cond (decide ((List.getD ((y5).2).1 0 (0 : Int)) ≤ (List.getD ((y5).2).1 1 (0 : Int))))
                          (
                          cond (decide (0 < (List.length ((y5).2).1)))
                            (
                            Option.bind (F_elem_of N (List.getD ((y5).2).1 0 (0 : Int)) ((((((y5).2).2).2).1).1).2) fun y6 =>
                            cond (y6).1
                              (
                              cond (decide (1 < (List.length ((y5).2).1)))
                                (
                                Option.bind (F_elem_of N (List.getD ((y5).2).1 1 (0 : Int)) ((((((y5).2).2).2).1).1).2) fun y7 =>
                                cond (decide ((List.length ((((y5).2).2).1).1) = (List.length ((((y5).2).2).1).1)))
                                  (
                                  some ((((y5).2).2).1, (((((y5).2).2).2).1, ((y7).1, (((((((y5).2).2).2).1).1).2, ())))))
                                  (
                                  none))
                                (
                                none))
                              (
                              cond (decide ((List.length ((((y5).2).2).1).1) = (List.length ((((y5).2).2).1).1)))
                                (
                                some ((((y5).2).2).1, (((((y5).2).2).2).1, (false, (((((((y5).2).2).2).1).1).2, ())))))
                                (
                                none)))
                            (
                            none))
                          (
                          cond (decide ((List.length ((((y5).2).2).1).1) = (List.length ((((y5).2).2).1).1)))
                            (
                            some ((((y5).2).2).1, (((((y5).2).2).2).1, (false, (((((((y5).2).2).2).1).1).2, ())))))
                            (
                            none)))
                        (
                        none))
                      (
                      none))
                    (
                    cond (decide ((y5).1 = (10 : Int)))
                      (
                      cond (decide (0 < (List.length ((y5).2).1)))
                        (
                        Option.bind (F_elem_in N (List.getD ((y5).2).1 0 (0 : Int)) (0 : Int) (2147483647 : Int)) fun y8 =>
                        cond (y8).1
                          (
                          cond (decide (1 < (List.length ((y5).2).1)))
                            (
                            Option.bind (F_elem_in N (List.getD ((y5).2).1 1 (0 : Int)) (0 : Int) (62 : Int)) fun y9 =>
                            cond (y9).1
                              (
                              cond (decide (2 < (List.length ((y5).2).1)))
                                (
                                Option.bind (F_elem_of N (List.getD ((y5).2).1 2 (0 : Int)) false) fun y10 =>
                                cond (decide ((List.length ((((y5).2).2).1).1) = (List.length ((((y5).2).2).1).1)))
                                  (
                                  some ((((y5).2).2).1, (((((y5).2).2).2).1, ((y10).1, (false, ())))))
                                  (
                                  none))
                                (
                                none))
                              (
                              cond (decide ((List.length ((((y5).2).2).1).1) = (List.length ((((y5).2).2).1).1)))
                                (
                                some ((((y5).2).2).1, (((((y5).2).2).2).1, (false, (false, ())))))
                                (
                                none)))
                            (
                            none))
                          (
                          cond (decide ((List.length ((((y5).2).2).1).1) = (List.length ((((y5).2).2).1).1)))
                            (
                            some ((((y5).2).2).1, (((((y5).2).2).2).1, (false, (false, ())))))
                            (
                            none)))
                        (
                        none))
                      (
                      cond (decide ((y5).1 = (11 : Int)))
                        (
                        cond (decide (0 < (List.length ((y5).2).1)))
                          (
                          Option.bind (F_elem_of N (List.getD ((y5).2).1 0 (0 : Int)) false) fun y11 =>
                          cond (decide ((List.length ((((y5).2).2).1).1) = (List.length ((((y5).2).2).1).1)))
                            (
                            some ((((y5).2).2).1, (((((y5).2).2).2).1, ((y11).1, (true, ())))))
                            (
                            none))
                          (
                          none))
                        (
                        cond (decide ((List.length ((((y5).2).2).1).1) = (List.length ((((y5).2).2).1).1)))
                          (
                          some ((((y5).2).2).1, (((((y5).2).2).2).1, (true, (((((((y5).2).2).2).1).1).2, ())))))
                          (
                          none))))) fun y12 =>
              cond (Bool.not (((y12).2).2).1)
                (
                some ((([] : List Int), (false, ())), ((Go.Eng.Er.s ErrRange), ())))
                (
                Option.bind (F_shape_Clone N (((y12).2).1).1) fun y13 =>
                cond (decide ((List.length ((y13).1).1) = (List.length ((y13).1).1)))
                  (
                  some ((((y13).1).1, (((y12).2).2).2), (Go.Eng.Er.nil, ())))
                  (
                  none))))
            (
            none))
          (fun y14 =>
          cond (decide ((List.length ((y14).1).1) = (List.length ((y14).1).1)))
            (
            some y14)
            (
            none)) y2)
        (
        none)))

abbrev c_elem_Result (N : Nat) : CallSpec := ⟨11, ps_elem_Result, rs_elem_Result, fun x => F_elem_Result N x.1 x.2.1 x.2.2.1⟩
abbrev l_elem_Result_0 (N : Nat) : LoopSpec := ⟨0, h_elem_Result_0, e_elem_Result_0, fun x => g_elem_Result_0 N N x.1 x.2.1 x.2.2.1 x.2.2.2.1 x.2.2.2.2.1 x.2.2.2.2.2.1 x.2.2.2.2.2.2.1 x.2.2.2.2.2.2.2.1⟩

theorem cs_elem_Result_ok (S : Nat → Addr) (N : Nat) : CallsOK Go.Proofs.Tryd.prog E S (cs_elem_Result N) :=
  .cons (F_shape_Valid_ok S N) (.cons (F_elem_counts_ok S N) (.cons (F_shape_Same_ok S N) (.cons (F_elem_in_ok S N) (.cons (F_elem_of_ok S N) (.cons (F_shape_Clone_ok S N) (.nil))))))
noncomputable abbrev b_elem_Result_0 : Code := (loopsOf b_elem_Result).getD 0 .skip
theorem g_elem_Result_0_ok (S : Nat → Addr) (N : Nat) : ∀ n x y, (fun (x : Val (slotsTy h_elem_Result_0)) => g_elem_Result_0 N n x.1 x.2.1 x.2.2.1 x.2.2.2.1 x.2.2.2.2.1 x.2.2.2.2.2.1 x.2.2.2.2.2.2.1 x.2.2.2.2.2.2.2.1) x = some y → LoopCon Go.Proofs.Tryd.prog E S b_elem_Result_0 (encSlots h_elem_Result_0 x) (encEx e_elem_Result_0 y).1 (encEx e_elem_Result_0 y).2 :=
  loop_spec E_ok mixed (cs_elem_Result_ok S N) (all := loopsOf b_elem_Result) (ls := []) (.nil) (i := 0) (by kernel_rfl) (inner_of (by kernel_rfl)) (head := h_elem_Result_0) (ex := e_elem_Result_0) (fun n (x : Val (slotsTy h_elem_Result_0)) => g_elem_Result_0 N n x.1 x.2.1 x.2.2.1 x.2.2.2.1 x.2.2.2.2.1 x.2.2.2.2.2.1 x.2.2.2.2.2.2.1 x.2.2.2.2.2.2.2.1) (fun _ => rfl) (fun n x => by kernel_rfl)
theorem F_elem_Result_ok (S : Nat → Addr) (N : Nat) : ∀ x y, (c_elem_Result N).g x = some y → FCon Go.Proofs.Tryd.prog E S 11 ps_elem_Result rs_elem_Result x y := by
  intro x y h
  exact fun_specJ E_ok mixed (cs_elem_Result_ok S N) (f := 11) (fi := ⟨b_elem_Result, 146, Go.Proofs.Tryd.f11.results.toList⟩) (by kernel_rfl) (ls := [l_elem_Result_0 N]) (.cons (by kernel_rfl) (g_elem_Result_0_ok S N N) (.nil)) (js := j_elem_Result) (by kernel_rfl) (ps := ps_elem_Result) (rs := rs_elem_Result) (Eq.trans (b := F_elem_Result N x.1 x.2.1 x.2.2.1) (by kernel_rfl) h)

/-! lodge/tens.Wide -/

abbrev ps_tens_Wide : List Ty := [(.int .i64)]
abbrev rs_tens_Wide : List Slot := [.data (.int .i64)]
abbrev cs_tens_Wide (N : Nat) : List CallSpec := []
noncomputable abbrev b_tens_Wide : Code := (Go.Proofs.Tryd.f18.body).getD .skip

def F_tens_Wide (N : Nat) (n_0 : Int) : Option (Int × Unit) :=
  some ((wi64 (wi32 (wu32 (wu64 n_0)))), ())

abbrev c_tens_Wide (N : Nat) : CallSpec := ⟨18, ps_tens_Wide, rs_tens_Wide, fun x => F_tens_Wide N x.1⟩

theorem cs_tens_Wide_ok (S : Nat → Addr) (N : Nat) : CallsOK Go.Proofs.Tryd.prog E S (cs_tens_Wide N) :=
  .nil
theorem F_tens_Wide_ok (S : Nat → Addr) (N : Nat) : ∀ x y, (c_tens_Wide N).g x = some y → FCon Go.Proofs.Tryd.prog E S 18 ps_tens_Wide rs_tens_Wide x y := by
  intro x y h
  exact fun_spec E_ok mixed (cs_tens_Wide_ok S N) (f := 18) (fi := ⟨b_tens_Wide, 8, Go.Proofs.Tryd.f18.results.toList⟩) (by kernel_rfl) (ls := []) (.nil) (by kernel_rfl) (ps := ps_tens_Wide) (rs := rs_tens_Wide) (Eq.trans (b := F_tens_Wide N x.1) (by kernel_rfl) h)

/-! lodge/tens.Narrow -/

abbrev ps_tens_Narrow : List Ty := [(.int .i64)]
abbrev rs_tens_Narrow : List Slot := [.data (.int .i64)]
abbrev cs_tens_Narrow (N : Nat) : List CallSpec := []
noncomputable abbrev b_tens_Narrow : Code := (Go.Proofs.Tryd.f65.body).getD .skip

def F_tens_Narrow (N : Nat) (n_0 : Int) : Option (Int × Unit) :=
  some ((Go.Eng.imax (-(128 : Int)) (Go.Eng.imin n_0 (127 : Int))), ())

abbrev c_tens_Narrow (N : Nat) : CallSpec := ⟨65, ps_tens_Narrow, rs_tens_Narrow, fun x => F_tens_Narrow N x.1⟩

theorem cs_tens_Narrow_ok (S : Nat → Addr) (N : Nat) : CallsOK Go.Proofs.Tryd.prog E S (cs_tens_Narrow N) :=
  .nil
theorem F_tens_Narrow_ok (S : Nat → Addr) (N : Nat) : ∀ x y, (c_tens_Narrow N).g x = some y → FCon Go.Proofs.Tryd.prog E S 65 ps_tens_Narrow rs_tens_Narrow x y := by
  intro x y h
  exact fun_spec E_ok mixed (cs_tens_Narrow_ok S N) (f := 65) (fi := ⟨b_tens_Narrow, 6, Go.Proofs.Tryd.f65.results.toList⟩) (by kernel_rfl) (ls := []) (.nil) (by kernel_rfl) (ps := ps_tens_Narrow) (rs := rs_tens_Narrow) (Eq.trans (b := F_tens_Narrow N x.1) (by kernel_rfl) h)

/-! lodge/elem.kind -/

abbrev ps_elem_kind : List Ty := [(.int .i64), .bool]
abbrev rs_elem_kind : List Slot := [.data (.int .i64)]
abbrev cs_elem_kind (N : Nat) : List CallSpec := [c_tens_Wide N, c_tens_Narrow N]
noncomputable abbrev b_elem_kind : Code := (Go.Proofs.Tryd.f44.body).getD .skip

def F_elem_kind (N : Nat) (n_0 : Int) (wide_1 : Bool) : Option (Int × Unit) :=
  cond wide_1
    (
    Option.bind (F_tens_Wide N n_0) fun y0 =>
    some y0)
    (
    Option.bind (F_tens_Narrow N n_0) fun y1 =>
    some y1)

abbrev c_elem_kind (N : Nat) : CallSpec := ⟨44, ps_elem_kind, rs_elem_kind, fun x => F_elem_kind N x.1 x.2.1⟩

theorem cs_elem_kind_ok (S : Nat → Addr) (N : Nat) : CallsOK Go.Proofs.Tryd.prog E S (cs_elem_kind N) :=
  .cons (F_tens_Wide_ok S N) (.cons (F_tens_Narrow_ok S N) (.nil))
theorem F_elem_kind_ok (S : Nat → Addr) (N : Nat) : ∀ x y, (c_elem_kind N).g x = some y → FCon Go.Proofs.Tryd.prog E S 44 ps_elem_kind rs_elem_kind x y := by
  intro x y h
  exact fun_spec E_ok mixed (cs_elem_kind_ok S N) (f := 44) (fi := ⟨b_elem_kind, 10, Go.Proofs.Tryd.f44.results.toList⟩) (by kernel_rfl) (ls := []) (.nil) (by kernel_rfl) (ps := ps_elem_kind) (rs := rs_elem_kind) (Eq.trans (b := F_elem_kind N x.1 x.2.1) (by kernel_rfl) h)

/-! lodge/quant.cut -/

abbrev ps_quant_cut : List Ty := [(.int .i64), (.int .i64), (.int .i64)]
abbrev rs_quant_cut : List Slot := [.data (.int .i64)]
abbrev cs_quant_cut (N : Nat) : List CallSpec := []
noncomputable abbrev b_quant_cut : Code := (Go.Proofs.Tryd.f59.body).getD .skip

def F_quant_cut (N : Nat) (n_0 : Int) (from_1 : Int) (to_2 : Int) : Option (Int × Unit) :=
  some ((Go.Eng.imax from_1 (Go.Eng.imin n_0 to_2)), ())

abbrev c_quant_cut (N : Nat) : CallSpec := ⟨59, ps_quant_cut, rs_quant_cut, fun x => F_quant_cut N x.1 x.2.1 x.2.2.1⟩

theorem cs_quant_cut_ok (S : Nat → Addr) (N : Nat) : CallsOK Go.Proofs.Tryd.prog E S (cs_quant_cut N) :=
  .nil
theorem F_quant_cut_ok (S : Nat → Addr) (N : Nat) : ∀ x y, (c_quant_cut N).g x = some y → FCon Go.Proofs.Tryd.prog E S 59 ps_quant_cut rs_quant_cut x y := by
  intro x y h
  exact fun_spec E_ok mixed (cs_quant_cut_ok S N) (f := 59) (fi := ⟨b_quant_cut, 12, Go.Proofs.Tryd.f59.results.toList⟩) (by kernel_rfl) (ls := []) (.nil) (by kernel_rfl) (ps := ps_quant_cut) (rs := rs_quant_cut) (Eq.trans (b := F_quant_cut N x.1 x.2.1 x.2.2.1) (by kernel_rfl) h)

/-! lodge/quant.Requant -/

abbrev ps_quant_Requant : List Ty := [(.int .i64), (.int .i64), (.int .i64), (.int .i64)]
abbrev rs_quant_Requant : List Slot := [.data (.int .i64)]
abbrev cs_quant_Requant (N : Nat) : List CallSpec := [c_quant_cut N]
noncomputable abbrev b_quant_Requant : Code := (Go.Proofs.Tryd.f28.body).getD .skip

def F_quant_Requant (N : Nat) (x_0 : Int) (mult_1 : Int) (shift_2 : Int) (zero_3 : Int) : Option (Int × Unit) :=
  Option.bind (F_quant_cut N x_0 (-(2147483648 : Int)) (2147483647 : Int)) fun y0 =>
  Option.bind (F_quant_cut N mult_1 (0 : Int) (2147483647 : Int)) fun y1 =>
  Option.bind (F_quant_cut N shift_2 (0 : Int) (62 : Int)) fun y2 =>
  cond (decide ((0 : Int) < (y2).1))
    (
    cond (decide ((0 : Int) ≤ (wi64 ((y2).1 - (1 : Int)))))
      (
      cond (decide ((0 : Int) ≤ (y2).1))
        (
        Option.bind (F_quant_cut N zero_3 (-(128 : Int)) (127 : Int)) fun y3 =>
        Option.bind (F_quant_cut N (wi64 ((Go.Eng.shrI Go.IntKind.i64 (wi64 ((wi64 ((y0).1 * (y1).1)) + (Go.Eng.shlI Go.IntKind.i64 (1 : Int) (wi64 ((y2).1 - (1 : Int)))))) (y2).1) + (y3).1)) (-(128 : Int)) (127 : Int)) fun y4 =>
        some y4)
        (
        none))
      (
      none))
    (
    Option.bind (F_quant_cut N zero_3 (-(128 : Int)) (127 : Int)) fun y5 =>
    Option.bind (F_quant_cut N (wi64 ((wi64 ((y0).1 * (y1).1)) + (y5).1)) (-(128 : Int)) (127 : Int)) fun y6 =>
    some y6)

abbrev c_quant_Requant (N : Nat) : CallSpec := ⟨28, ps_quant_Requant, rs_quant_Requant, fun x => F_quant_Requant N x.1 x.2.1 x.2.2.1 x.2.2.2.1⟩

theorem cs_quant_Requant_ok (S : Nat → Addr) (N : Nat) : CallsOK Go.Proofs.Tryd.prog E S (cs_quant_Requant N) :=
  .cons (F_quant_cut_ok S N) (.nil)
theorem F_quant_Requant_ok (S : Nat → Addr) (N : Nat) : ∀ x y, (c_quant_Requant N).g x = some y → FCon Go.Proofs.Tryd.prog E S 28 ps_quant_Requant rs_quant_Requant x y := by
  intro x y h
  exact fun_spec E_ok mixed (cs_quant_Requant_ok S N) (f := 28) (fi := ⟨b_quant_Requant, 31, Go.Proofs.Tryd.f28.results.toList⟩) (by kernel_rfl) (ls := []) (.nil) (by kernel_rfl) (ps := ps_quant_Requant) (rs := rs_quant_Requant) (Eq.trans (b := F_quant_Requant N x.1 x.2.1 x.2.2.1 x.2.2.2.1) (by kernel_rfl) h)

/-! lodge/elem.Value -/

abbrev ps_elem_Value : List Ty := [(.int .i64), .bool, (.int .i64), (.int .i64), (.sl (.int .i64))]
abbrev rs_elem_Value : List Slot := [.data (.int .i64)]
abbrev cs_elem_Value (N : Nat) : List CallSpec := [c_elem_counts N, c_elem_kind N, c_quant_Requant N]
noncomputable abbrev b_elem_Value : Code := (Go.Proofs.Tryd.f17.body).getD .skip

def F_elem_Value (N : Nat) (op_0 : Int) (wide_1 : Bool) (x_2 : Int) (y_3 : Int) (args_4 : List Int) : Option (Int × Unit) :=
  Option.bind (F_elem_counts N op_0) fun y0 =>
  cond (decide ((Nat.cast (List.length args_4) : Int) < ((y0).2).1))
    (
    some ((0 : Int), ()))
    (
    cond (decide (op_0 = (4 : Int)))
      (
      Option.bind (F_elem_kind N (wi64 (x_2 + y_3)) wide_1) fun y1 =>
      some y1)
      (
      cond (decide (op_0 = (5 : Int)))
        (
        Option.bind (F_elem_kind N (wi64 (x_2 - y_3)) wide_1) fun y2 =>
        some y2)
        (
        cond (decide (op_0 = (6 : Int)))
          (
          Option.bind (F_elem_kind N (wi64 (x_2 * y_3)) wide_1) fun y3 =>
          some y3)
          (
          cond (decide (op_0 = (7 : Int)))
            (
            some ((Go.Eng.imax x_2 y_3), ()))
            (
            cond (decide (op_0 = (8 : Int)))
              (
              some ((Go.Eng.imax x_2 (0 : Int)), ()))
              (
              cond (decide (op_0 = (9 : Int)))
                (
                cond (decide (0 < (List.length args_4)))
                  (
                  cond (decide (1 < (List.length args_4)))
                    (
                    some ((Go.Eng.imax (List.getD args_4 0 (0 : Int)) (Go.Eng.imin x_2 (List.getD args_4 1 (0 : Int)))), ()))
                    (
                    none))
                  (
                  none))
                (
                cond (decide (op_0 = (10 : Int)))
                  (
                  cond (decide (0 < (List.length args_4)))
                    (
                    cond (decide (1 < (List.length args_4)))
                      (
                      cond (decide (2 < (List.length args_4)))
                        (
                        Option.bind (F_quant_Requant N x_2 (List.getD args_4 0 (0 : Int)) (List.getD args_4 1 (0 : Int)) (List.getD args_4 2 (0 : Int))) fun y4 =>
                        some y4)
                        (
                        none))
                      (
                      none))
                    (
                    none))
                  (
                  cond (decide (op_0 = (11 : Int)))
                    (
                    cond (decide (0 < (List.length args_4)))
                      (
                      some ((wi64 (x_2 - (List.getD args_4 0 (0 : Int)))), ()))
                      (
                      none))
                    (
                    some ((0 : Int), ()))))))))))

abbrev c_elem_Value (N : Nat) : CallSpec := ⟨17, ps_elem_Value, rs_elem_Value, fun x => F_elem_Value N x.1 x.2.1 x.2.2.1 x.2.2.2.1 x.2.2.2.2.1⟩

theorem cs_elem_Value_ok (S : Nat → Addr) (N : Nat) : CallsOK Go.Proofs.Tryd.prog E S (cs_elem_Value N) :=
  .cons (F_elem_counts_ok S N) (.cons (F_elem_kind_ok S N) (.cons (F_quant_Requant_ok S N) (.nil)))
theorem F_elem_Value_ok (S : Nat → Addr) (N : Nat) : ∀ x y, (c_elem_Value N).g x = some y → FCon Go.Proofs.Tryd.prog E S 17 ps_elem_Value rs_elem_Value x y := by
  intro x y h
  exact fun_spec E_ok mixed (cs_elem_Value_ok S N) (f := 17) (fi := ⟨b_elem_Value, 86, Go.Proofs.Tryd.f17.results.toList⟩) (by kernel_rfl) (ls := []) (.nil) (by kernel_rfl) (ps := ps_elem_Value) (rs := rs_elem_Value) (Eq.trans (b := F_elem_Value N x.1 x.2.1 x.2.2.1 x.2.2.2.1 x.2.2.2.2.1) (by kernel_rfl) h)

/-! lodge/elem.apply -/

abbrev ps_elem_apply : List Ty := [(.int .i64), (.sl (.int .i64)), (.sl (.st (.pair (.st (.pair (.sl (.int .i64)) .bool)) (.sl (.int .i64)))))]
abbrev rs_elem_apply : List Slot := [.ag [.sl (.int .i64), .d .bool, .sl (.int .i64)], .data .err]
abbrev cs_elem_apply (N : Nat) : List CallSpec := [c_tens_Valid N, c_elem_Result N, c_elem_Value N]
noncomputable abbrev b_elem_apply : Code := (Go.Proofs.Tryd.f45.body).getD .skip

abbrev h_elem_apply_0 : List Slot := [.data (.int .i64), .data (.sl (.int .i64)), .data (.sl (.st (.pair (.st (.pair (.sl (.int .i64)) .bool)) (.sl (.int .i64))))), .dead, .dead, .dead, .box [.sl (.int .i64), .d .bool, .sl (.int .i64)], .dead, .sl (.st (.pair (.sl (.int .i64)) .bool)), .dead, .dead, .dead, .dead, .dead, .dead, .dead, .dead, .dead, .dead, .data (.sl (.st (.pair (.st (.pair (.sl (.int .i64)) .bool)) (.sl (.int .i64))))), .data (.int .i64), .data (.int .i64), .dead, .dead, .dead, .dead, .dead, .dead, .dead, .dead, .dead, .dead, .dead, .dead, .dead, .dead, .dead, .dead, .dead, .dead, .dead, .dead, .dead, .dead, .dead, .dead, .dead, .dead, .dead, .dead, .dead, .dead, .dead, .dead, .dead, .dead, .dead, .dead, .dead, .dead, .dead, .dead, .dead, .dead, .dead, .dead, .dead, .dead, .dead, .dead, .dead, .dead, .dead, .dead, .dead, .dead, .dead, .dead, .dead, .dead, .dead, .dead, .dead, .dead, .dead, .dead]
abbrev e_elem_apply_0 : List (AX × List Slot) := [(AX.exit 0, [.data (.int .i64), .data (.sl (.int .i64)), .data (.sl (.st (.pair (.st (.pair (.sl (.int .i64)) .bool)) (.sl (.int .i64))))), .dead, .dead, .dead, .box [.sl (.int .i64), .d .bool, .sl (.int .i64)], .dead, .sl (.st (.pair (.sl (.int .i64)) .bool)), .dead, .dead, .dead, .dead, .dead, .dead, .dead, .dead, .dead, .dead, .dead, .dead, .dead, .dead, .dead, .dead, .dead, .dead, .dead, .dead, .dead, .dead, .dead, .dead, .dead, .dead, .dead, .dead, .dead, .dead, .dead, .dead, .dead, .dead, .dead, .dead, .dead, .dead, .dead, .dead, .dead, .dead, .dead, .dead, .dead, .dead, .dead, .dead, .dead, .dead, .dead, .dead, .dead, .dead, .dead, .dead, .dead, .dead, .dead, .dead, .dead, .dead, .dead, .dead, .dead, .dead, .dead, .dead, .dead, .dead, .dead, .dead, .dead, .dead, .dead, .dead, .dead]), (AX.ret, [.dead, .dead, .dead, .dead, .dead, .dead, .box [.sl (.int .i64), .d .bool, .sl (.int .i64)], .data .err, .dead, .dead, .dead, .dead, .dead, .dead, .dead, .dead, .dead, .dead, .dead, .dead, .dead, .dead, .dead, .dead, .dead, .dead, .dead, .dead, .dead, .dead, .dead, .dead, .dead, .dead, .dead, .dead, .dead, .dead, .dead, .dead, .dead, .dead, .dead, .dead, .dead, .dead, .dead, .dead, .dead, .dead, .dead, .dead, .dead, .dead, .dead, .dead, .dead, .dead, .dead, .dead, .dead, .dead, .dead, .dead, .dead, .dead, .dead, .dead, .dead, .dead, .dead, .dead, .dead, .dead, .dead, .dead, .dead, .dead, .dead, .dead, .dead, .dead, .dead, .dead, .dead, .dead])]
def g_elem_apply_0 (N : Nat) : Nat → Int → List Int → List (((List Int × Bool) × List Int)) → (List Int × (Bool × (List Int × Unit))) → List ((List Int × Bool)) → List (((List Int × Bool) × List Int)) → Int → Int → Option (Sum (Int × (List Int × (List (((List Int × Bool) × List Int)) × ((List Int × (Bool × (List Int × Unit))) × (List ((List Int × Bool)) × Unit))))) ((List Int × (Bool × (List Int × Unit))) × (Er × Unit)))
  | 0, _, _, _, _, _, _, _, _ => none
  | n + 1, op_0, args_1, ins_2, t_6, descs_8, t_19, t_20, t_21 =>
    cond (decide (t_21 < t_20))
      (
      cond (decide ((0 : Int) ≤ t_21))
        (
        cond (decide ((Int.toNat t_21) < (List.length t_19)))
          (
          Option.bind (F_tens_Valid N (List.getD t_19 (Int.toNat t_21) ((([] : List Int), false), ([] : List Int)))) fun y1 =>
          cond (Bool.not (Go.Eng.Er.isNil (y1).1))
            (
            some (Sum.inr ((([] : List Int), (false, (([] : List Int), ()))), y1)))
            (
            cond (decide (((0 : Nat) + (List.length descs_8)) = (List.length descs_8)))
              (
              cond (decide ((((List.length descs_8) + 1) * (32 + (1 : Nat))) ≤ Go.Eng.most))
                (
                cond (decide ((List.length (t_6).1) = (List.length (t_6).1)))
                  (
                  cond (decide ((List.length (((t_6).2).2).1) = (List.length (((t_6).2).2).1)))
                    (
                    cond (decide (((List.length descs_8) + 1) = (List.length ((List.take (List.length descs_8) descs_8) ++ (((List.getD t_19 (Int.toNat t_21) ((([] : List Int), false), ([] : List Int)))).1 :: ([] : List ((List Int) × Bool)))))))
                      (
                      (g_elem_apply_0 N n op_0 args_1 ins_2 t_6 ((List.take (List.length descs_8) descs_8) ++ (((List.getD t_19 (Int.toNat t_21) ((([] : List Int), false), ([] : List Int)))).1 :: ([] : List ((List Int) × Bool)))) t_19 t_20 (wi64 (t_21 + (1 : Int)))))
                      (
                      none))
                    (
                    none))
                  (
                  none))
                (
                none))
              (
              none)))
          (
          none))
        (
        none))
      (
      cond (decide ((List.length (t_6).1) = (List.length (t_6).1)))
        (
        cond (decide ((List.length (((t_6).2).2).1) = (List.length (((t_6).2).2).1)))
          (
          cond (decide ((List.length descs_8) = (List.length descs_8)))
            (
            some (Sum.inl (op_0, (args_1, (ins_2, (t_6, (descs_8, ())))))))
            (
            none))
          (
          none))
        (
        none))

abbrev h_elem_apply_1 : List Slot := [.data (.int .i64), .data (.sl (.int .i64)), .data (.sl (.st (.pair (.st (.pair (.sl (.int .i64)) .bool)) (.sl (.int .i64))))), .dead, .dead, .dead, .box [.sl (.int .i64), .d .bool, .sl (.int .i64)], .dead, .dead, .dead, .dead, .dead, .dead, .dead, .box [.d (.st (.pair (.st (.pair (.sl (.int .i64)) .bool)) (.sl (.int .i64))))], .box [.sl (.int .i64), .d .bool, .sl (.int .i64)], .dead, .dead, .dead, .dead, .dead, .dead, .dead, .dead, .dead, .dead, .dead, .dead, .dead, .dead, .dead, .dead, .dead, .dead, .dead, .dead, .dead, .dead, .dead, .dead, .dead, .dead, .dead, .dead, .dead, .dead, .dead, .dead, .dead, .dead, .dead, .dead, .dead, .dead, .data (.sl (.int .i64)), .data (.int .i64), .data (.int .i64), .dead, .dead, .dead, .dead, .dead, .dead, .dead, .dead, .dead, .dead, .dead, .dead, .dead, .dead, .dead, .dead, .dead, .dead, .dead, .dead, .dead, .dead, .dead, .dead, .dead, .dead, .dead, .dead, .dead]
abbrev e_elem_apply_1 : List (AX × List Slot) := [(AX.exit 2, [.dead, .dead, .dead, .dead, .dead, .dead, .box [.sl (.int .i64), .d .bool, .sl (.int .i64)], .dead, .dead, .dead, .dead, .dead, .dead, .dead, .dead, .box [.sl (.int .i64), .d .bool, .sl (.int .i64)], .dead, .dead, .dead, .dead, .dead, .dead, .dead, .dead, .dead, .dead, .dead, .dead, .dead, .dead, .dead, .dead, .dead, .dead, .dead, .dead, .dead, .dead, .dead, .dead, .dead, .dead, .dead, .dead, .dead, .dead, .dead, .dead, .dead, .dead, .dead, .dead, .dead, .dead, .dead, .dead, .dead, .dead, .dead, .dead, .dead, .dead, .dead, .dead, .dead, .dead, .dead, .dead, .dead, .dead, .dead, .dead, .dead, .dead, .dead, .dead, .dead, .dead, .dead, .dead, .dead, .dead, .dead, .dead, .dead, .dead])]
def g_elem_apply_1 (N : Nat) : Nat → Int → List Int → List (((List Int × Bool) × List Int)) → (List Int × (Bool × (List Int × Unit))) → (((List Int × Bool) × List Int) × Unit) → (List Int × (Bool × (List Int × Unit))) → List Int → Int → Int → Option ((List Int × (Bool × (List Int × Unit))) × ((List Int × (Bool × (List Int × Unit))) × Unit))
  | 0, _, _, _, _, _, _, _, _, _ => none
  | n + 1, op_0, args_1, ins_2, t_6, a_14, out_15, t_54, t_55, t_56 =>
    cond (decide (t_56 < t_55))
      (
      cond (decide ((0 : Int) ≤ t_56))
        (
        cond (decide ((Int.toNat t_56) < (List.length t_54)))
          (
          cond (decide ((1 : Int) < (Nat.cast (List.length ins_2) : Int)))
            (
            cond (decide (1 < (List.length ins_2)))
              (
              cond (decide ((0 : Int) ≤ t_56))
                (
                cond (decide ((Int.toNat t_56) < (List.length ((List.getD ins_2 1 ((([] : List Int), false), ([] : List Int)))).2)))
                  (
                  Option.bind (F_elem_Value N op_0 (((a_14).1).1).2 (List.getD t_54 (Int.toNat t_56) (0 : Int)) (List.getD ((List.getD ins_2 1 ((([] : List Int), false), ([] : List Int)))).2 (Int.toNat t_56) (0 : Int)) args_1) fun y7 =>
                  cond (decide (((0 : Nat) + (List.length (((out_15).2).2).1)) = (List.length (((out_15).2).2).1)))
                    (
                    cond (decide ((((List.length (((out_15).2).2).1) + 1) * (8 + (1 : Nat))) ≤ Go.Eng.most))
                      (
                      cond (decide ((List.length (t_6).1) = (List.length (t_6).1)))
                        (
                        cond (decide ((List.length (((t_6).2).2).1) = (List.length (((t_6).2).2).1)))
                          (
                          cond (decide ((List.length (out_15).1) = (List.length (out_15).1)))
                            (
                            cond (decide (((List.length (((out_15).2).2).1) + 1) = (List.length ((List.take (List.length (((out_15).2).2).1) (((out_15).2).2).1) ++ ((y7).1 :: ([] : List Int))))))
                              (
                              (g_elem_apply_1 N n op_0 args_1 ins_2 t_6 a_14 ((out_15).1, (((out_15).2).1, (((List.take (List.length (((out_15).2).2).1) (((out_15).2).2).1) ++ ((y7).1 :: ([] : List Int))), ()))) t_54 t_55 (wi64 (t_56 + (1 : Int)))))
                              (
                              none))
                            (
                            none))
                          (
                          none))
                        (
                        none))
                      (
                      none))
                    (
                    none))
                  (
                  none))
                (
                none))
              (
              none))
            (
            Option.bind (F_elem_Value N op_0 (((a_14).1).1).2 (List.getD t_54 (Int.toNat t_56) (0 : Int)) (0 : Int) args_1) fun y8 =>
            cond (decide (((0 : Nat) + (List.length (((out_15).2).2).1)) = (List.length (((out_15).2).2).1)))
              (
              cond (decide ((((List.length (((out_15).2).2).1) + 1) * (8 + (1 : Nat))) ≤ Go.Eng.most))
                (
                cond (decide ((List.length (t_6).1) = (List.length (t_6).1)))
                  (
                  cond (decide ((List.length (((t_6).2).2).1) = (List.length (((t_6).2).2).1)))
                    (
                    cond (decide ((List.length (out_15).1) = (List.length (out_15).1)))
                      (
                      cond (decide (((List.length (((out_15).2).2).1) + 1) = (List.length ((List.take (List.length (((out_15).2).2).1) (((out_15).2).2).1) ++ ((y8).1 :: ([] : List Int))))))
                        (
                        (g_elem_apply_1 N n op_0 args_1 ins_2 t_6 a_14 ((out_15).1, (((out_15).2).1, (((List.take (List.length (((out_15).2).2).1) (((out_15).2).2).1) ++ ((y8).1 :: ([] : List Int))), ()))) t_54 t_55 (wi64 (t_56 + (1 : Int)))))
                        (
                        none))
                      (
                      none))
                    (
                    none))
                  (
                  none))
                (
                none))
              (
              none)))
          (
          none))
        (
        none))
      (
      cond (decide ((List.length (t_6).1) = (List.length (t_6).1)))
        (
        cond (decide ((List.length (((t_6).2).2).1) = (List.length (((t_6).2).2).1)))
          (
          cond (decide ((List.length (out_15).1) = (List.length (out_15).1)))
            (
            cond (decide ((List.length (((out_15).2).2).1) = (List.length (((out_15).2).2).1)))
              (
              some (t_6, (out_15, ())))
              (
              none))
            (
            none))
          (
          none))
        (
        none))

def F_elem_apply (N : Nat) (op_0 : Int) (args_1 : List Int) (ins_2 : List (((List Int × Bool) × List Int))) : Option ((List Int × (Bool × (List Int × Unit))) × (Er × Unit)) :=
  Option.bind (g_elem_apply_0 N N op_0 args_1 ins_2 (([] : List Int), (false, (([] : List Int), ()))) ([] : List ((List Int) × Bool)) ins_2 (Nat.cast (List.length ins_2) : Int) (0 : Int)) fun y0 =>
  Sum.elim (fun y1 =>
    cond (decide (((0 : Nat) + (List.length (((((y1).2).2).2).2).1)) ≤ (List.length (((((y1).2).2).2).2).1)))
      (
      Option.bind (F_elem_Result N (y1).1 ((y1).2).1 (List.take (List.length (((((y1).2).2).2).2).1) (((((y1).2).2).2).2).1)) fun y2 =>
      cond (Bool.not (Go.Eng.Er.isNil ((y2).2).1))
        (
        some ((([] : List Int), (false, (([] : List Int), ()))), (y2).2))
        (
        cond (decide (0 < (List.length (((y1).2).2).1)))
          (
          cond (decide ((List.length (((((y1).2).2).2).1).1) = (List.length (((((y1).2).2).2).1).1)))
            (
            cond (decide ((List.length (((((((y1).2).2).2).1).2).2).1) = (List.length (((((((y1).2).2).2).1).2).2).1)))
              (
              cond (decide ((List.length ((y2).1).1) = (List.length ((y2).1).1)))
                (
                Option.bind (g_elem_apply_1 N N (y1).1 ((y1).2).1 (((y1).2).2).1 ((((y1).2).2).2).1 ((List.getD (((y1).2).2).1 0 ((([] : List Int), false), ([] : List Int))), ()) (((y2).1).1, ((((y2).1).2).1, (([] : List Int), ()))) ((List.getD (((y1).2).2).1 0 ((([] : List Int), false), ([] : List Int)))).2 (Nat.cast (List.length ((List.getD (((y1).2).2).1 0 ((([] : List Int), false), ([] : List Int)))).2) : Int) (0 : Int)) fun y3 =>
                cond (decide ((List.length (((y3).2).1).1) = (List.length (((y3).2).1).1)))
                  (
                  cond (decide ((List.length (((((y3).2).1).2).2).1) = (List.length (((((y3).2).1).2).2).1)))
                    (
                    some (((y3).2).1, (Go.Eng.Er.nil, ())))
                    (
                    none))
                  (
                  none))
                (
                none))
              (
              none))
            (
            none))
          (
          none)))
      (
      none))
    (fun y4 =>
    cond (decide ((List.length ((y4).1).1) = (List.length ((y4).1).1)))
      (
      cond (decide ((List.length ((((y4).1).2).2).1) = (List.length ((((y4).1).2).2).1)))
        (
        some y4)
        (
        none))
      (
      none)) y0

abbrev c_elem_apply (N : Nat) : CallSpec := ⟨45, ps_elem_apply, rs_elem_apply, fun x => F_elem_apply N x.1 x.2.1 x.2.2.1⟩
abbrev l_elem_apply_1 (N : Nat) : LoopSpec := ⟨1, h_elem_apply_1, e_elem_apply_1, fun x => g_elem_apply_1 N N x.1 x.2.1 x.2.2.1 x.2.2.2.1 x.2.2.2.2.1 x.2.2.2.2.2.1 x.2.2.2.2.2.2.1 x.2.2.2.2.2.2.2.1 x.2.2.2.2.2.2.2.2.1⟩
abbrev l_elem_apply_0 (N : Nat) : LoopSpec := ⟨0, h_elem_apply_0, e_elem_apply_0, fun x => g_elem_apply_0 N N x.1 x.2.1 x.2.2.1 x.2.2.2.1 x.2.2.2.2.1 x.2.2.2.2.2.1 x.2.2.2.2.2.2.1 x.2.2.2.2.2.2.2.1⟩

theorem cs_elem_apply_ok (S : Nat → Addr) (N : Nat) : CallsOK Go.Proofs.Tryd.prog E S (cs_elem_apply N) :=
  .cons (F_tens_Valid_ok S N) (.cons (F_elem_Result_ok S N) (.cons (F_elem_Value_ok S N) (.nil)))
noncomputable abbrev b_elem_apply_1 : Code := (loopsOf b_elem_apply).getD 1 .skip
theorem g_elem_apply_1_ok (S : Nat → Addr) (N : Nat) : ∀ n x y, (fun (x : Val (slotsTy h_elem_apply_1)) => g_elem_apply_1 N n x.1 x.2.1 x.2.2.1 x.2.2.2.1 x.2.2.2.2.1 x.2.2.2.2.2.1 x.2.2.2.2.2.2.1 x.2.2.2.2.2.2.2.1 x.2.2.2.2.2.2.2.2.1) x = some y → LoopCon Go.Proofs.Tryd.prog E S b_elem_apply_1 (encSlots h_elem_apply_1 x) (encEx e_elem_apply_1 y).1 (encEx e_elem_apply_1 y).2 :=
  loop_spec E_ok mixed (cs_elem_apply_ok S N) (all := loopsOf b_elem_apply) (ls := []) (.nil) (i := 1) (by kernel_rfl) (inner_of (by kernel_rfl)) (head := h_elem_apply_1) (ex := e_elem_apply_1) (fun n (x : Val (slotsTy h_elem_apply_1)) => g_elem_apply_1 N n x.1 x.2.1 x.2.2.1 x.2.2.2.1 x.2.2.2.2.1 x.2.2.2.2.2.1 x.2.2.2.2.2.2.1 x.2.2.2.2.2.2.2.1 x.2.2.2.2.2.2.2.2.1) (fun _ => rfl) (fun n x => by kernel_rfl)
noncomputable abbrev b_elem_apply_0 : Code := (loopsOf b_elem_apply).getD 0 .skip
theorem g_elem_apply_0_ok (S : Nat → Addr) (N : Nat) : ∀ n x y, (fun (x : Val (slotsTy h_elem_apply_0)) => g_elem_apply_0 N n x.1 x.2.1 x.2.2.1 x.2.2.2.1 x.2.2.2.2.1 x.2.2.2.2.2.1 x.2.2.2.2.2.2.1 x.2.2.2.2.2.2.2.1) x = some y → LoopCon Go.Proofs.Tryd.prog E S b_elem_apply_0 (encSlots h_elem_apply_0 x) (encEx e_elem_apply_0 y).1 (encEx e_elem_apply_0 y).2 :=
  loop_spec E_ok mixed (cs_elem_apply_ok S N) (all := loopsOf b_elem_apply) (ls := []) (.nil) (i := 0) (by kernel_rfl) (inner_of (by kernel_rfl)) (head := h_elem_apply_0) (ex := e_elem_apply_0) (fun n (x : Val (slotsTy h_elem_apply_0)) => g_elem_apply_0 N n x.1 x.2.1 x.2.2.1 x.2.2.2.1 x.2.2.2.2.1 x.2.2.2.2.2.1 x.2.2.2.2.2.2.1 x.2.2.2.2.2.2.2.1) (fun _ => rfl) (fun n x => by kernel_rfl)
theorem F_elem_apply_ok (S : Nat → Addr) (N : Nat) : ∀ x y, (c_elem_apply N).g x = some y → FCon Go.Proofs.Tryd.prog E S 45 ps_elem_apply rs_elem_apply x y := by
  intro x y h
  exact fun_spec E_ok mixed (cs_elem_apply_ok S N) (f := 45) (fi := ⟨b_elem_apply, 86, Go.Proofs.Tryd.f45.results.toList⟩) (by kernel_rfl) (ls := [l_elem_apply_1 N, l_elem_apply_0 N]) (.cons (by kernel_rfl) (g_elem_apply_1_ok S N N) (.cons (by kernel_rfl) (g_elem_apply_0_ok S N N) (.nil))) (by kernel_rfl) (ps := ps_elem_apply) (rs := rs_elem_apply) (Eq.trans (b := F_elem_apply N x.1 x.2.1 x.2.2.1) (by kernel_rfl) h)

/-! lodge/elem.Two -/

abbrev ps_elem_Two : List Ty := [(.int .i64), (.st (.pair (.st (.pair (.sl (.int .i64)) .bool)) (.sl (.int .i64)))), (.st (.pair (.st (.pair (.sl (.int .i64)) .bool)) (.sl (.int .i64))))]
abbrev rs_elem_Two : List Slot := [.ag [.sl (.int .i64), .d .bool, .sl (.int .i64)], .data .err]
abbrev cs_elem_Two (N : Nat) : List CallSpec := [c_elem_apply N]
noncomputable abbrev b_elem_Two : Code := (Go.Proofs.Tryd.f20.body).getD .skip

def F_elem_Two (N : Nat) (op_0 : Int) (a_1 : ((List Int × Bool) × List Int)) (b_2 : ((List Int × Bool) × List Int)) : Option ((List Int × (Bool × (List Int × Unit))) × (Er × Unit)) :=
  Option.bind (F_elem_apply N op_0 ([] : List Int) (a_1 :: (b_2 :: ([] : List (((List Int) × Bool) × (List Int)))))) fun y0 =>
  cond (decide ((List.length ((y0).1).1) = (List.length ((y0).1).1)))
    (
    cond (decide ((List.length ((((y0).1).2).2).1) = (List.length ((((y0).1).2).2).1)))
      (
      some y0)
      (
      none))
    (
    none)

abbrev c_elem_Two (N : Nat) : CallSpec := ⟨20, ps_elem_Two, rs_elem_Two, fun x => F_elem_Two N x.1 x.2.1 x.2.2.1⟩

theorem cs_elem_Two_ok (S : Nat → Addr) (N : Nat) : CallsOK Go.Proofs.Tryd.prog E S (cs_elem_Two N) :=
  .cons (F_elem_apply_ok S N) (.nil)
theorem F_elem_Two_ok (S : Nat → Addr) (N : Nat) : ∀ x y, (c_elem_Two N).g x = some y → FCon Go.Proofs.Tryd.prog E S 20 ps_elem_Two rs_elem_Two x y := by
  intro x y h
  exact fun_spec E_ok mixed (cs_elem_Two_ok S N) (f := 20) (fi := ⟨b_elem_Two, 15, Go.Proofs.Tryd.f20.results.toList⟩) (by kernel_rfl) (ls := []) (.nil) (by kernel_rfl) (ps := ps_elem_Two) (rs := rs_elem_Two) (Eq.trans (b := F_elem_Two N x.1 x.2.1 x.2.2.1) (by kernel_rfl) h)

/-! lodge/lodgeref.SameInts -/

abbrev ps_lodgeref_SameInts : List Ty := [(.sl (.int .i64)), (.sl (.int .i64))]
abbrev rs_lodgeref_SameInts : List Slot := [.data .bool]
abbrev cs_lodgeref_SameInts (N : Nat) : List CallSpec := []
noncomputable abbrev b_lodgeref_SameInts : Code := (Go.Proofs.Tryd.f32.body).getD .skip

abbrev h_lodgeref_SameInts_0 : List Slot := [.data (.sl (.int .i64)), .data (.sl (.int .i64)), .dead, .dead, .dead, .data (.int .i64), .dead, .dead, .dead, .dead, .dead, .dead, .dead, .dead, .dead, .dead, .dead, .dead, .dead, .dead, .dead, .dead, .dead, .dead, .dead, .dead, .dead, .dead, .dead]
abbrev e_lodgeref_SameInts_0 : List (AX × List Slot) := [(AX.exit 0, [.dead, .dead, .dead, .dead, .dead, .dead, .dead, .dead, .dead, .dead, .dead, .dead, .dead, .dead, .dead, .dead, .dead, .dead, .dead, .dead, .dead, .dead, .dead, .dead, .dead, .dead, .dead, .dead, .dead]), (AX.ret, [.dead, .dead, .dead, .dead, .data .bool, .dead, .dead, .dead, .dead, .dead, .dead, .dead, .dead, .dead, .dead, .dead, .dead, .dead, .dead, .dead, .dead, .dead, .dead, .dead, .dead, .dead, .dead, .dead, .dead])]
def g_lodgeref_SameInts_0 (N : Nat) : Nat → List Int → List Int → Int → Option (Sum Unit (Bool × Unit))
  | 0, _, _, _ => none
  | n + 1, a_0, b_1, i_5 =>
    cond (decide (i_5 < (Nat.cast (List.length a_0) : Int)))
      (
      cond (decide ((0 : Int) ≤ i_5))
        (
        cond (decide ((Int.toNat i_5) < (List.length a_0)))
          (
          cond (decide ((0 : Int) ≤ i_5))
            (
            cond (decide ((Int.toNat i_5) < (List.length b_1)))
              (
              cond (Bool.not (decide ((List.getD a_0 (Int.toNat i_5) (0 : Int)) = (List.getD b_1 (Int.toNat i_5) (0 : Int)))))
                (
                some (Sum.inr (false, ())))
                (
                (g_lodgeref_SameInts_0 N n a_0 b_1 (wi64 (i_5 + (1 : Int))))))
              (
              none))
            (
            none))
          (
          none))
        (
        none))
      (
      some (Sum.inl ()))

def F_lodgeref_SameInts (N : Nat) (a_0 : List Int) (b_1 : List Int) : Option (Bool × Unit) :=
  cond (decide (@Ne Int (Nat.cast (List.length a_0) : Int) (Nat.cast (List.length b_1) : Int)))
    (
    some (false, ()))
    (
    Option.bind (g_lodgeref_SameInts_0 N N a_0 b_1 (0 : Int)) fun y0 =>
    Sum.elim (fun y1 =>
      some (true, ()))
      (fun y2 =>
      some y2) y0)

abbrev c_lodgeref_SameInts (N : Nat) : CallSpec := ⟨32, ps_lodgeref_SameInts, rs_lodgeref_SameInts, fun x => F_lodgeref_SameInts N x.1 x.2.1⟩
abbrev l_lodgeref_SameInts_0 (N : Nat) : LoopSpec := ⟨0, h_lodgeref_SameInts_0, e_lodgeref_SameInts_0, fun x => g_lodgeref_SameInts_0 N N x.1 x.2.1 x.2.2.1⟩

theorem cs_lodgeref_SameInts_ok (S : Nat → Addr) (N : Nat) : CallsOK Go.Proofs.Tryd.prog E S (cs_lodgeref_SameInts N) :=
  .nil
noncomputable abbrev b_lodgeref_SameInts_0 : Code := (loopsOf b_lodgeref_SameInts).getD 0 .skip
theorem g_lodgeref_SameInts_0_ok (S : Nat → Addr) (N : Nat) : ∀ n x y, (fun (x : Val (slotsTy h_lodgeref_SameInts_0)) => g_lodgeref_SameInts_0 N n x.1 x.2.1 x.2.2.1) x = some y → LoopCon Go.Proofs.Tryd.prog E S b_lodgeref_SameInts_0 (encSlots h_lodgeref_SameInts_0 x) (encEx e_lodgeref_SameInts_0 y).1 (encEx e_lodgeref_SameInts_0 y).2 :=
  loop_spec E_ok mixed (cs_lodgeref_SameInts_ok S N) (all := loopsOf b_lodgeref_SameInts) (ls := []) (.nil) (i := 0) (by kernel_rfl) (inner_of (by kernel_rfl)) (head := h_lodgeref_SameInts_0) (ex := e_lodgeref_SameInts_0) (fun n (x : Val (slotsTy h_lodgeref_SameInts_0)) => g_lodgeref_SameInts_0 N n x.1 x.2.1 x.2.2.1) (fun _ => rfl) (fun n x => by kernel_rfl)
theorem F_lodgeref_SameInts_ok (S : Nat → Addr) (N : Nat) : ∀ x y, (c_lodgeref_SameInts N).g x = some y → FCon Go.Proofs.Tryd.prog E S 32 ps_lodgeref_SameInts rs_lodgeref_SameInts x y := by
  intro x y h
  exact fun_spec E_ok mixed (cs_lodgeref_SameInts_ok S N) (f := 32) (fi := ⟨b_lodgeref_SameInts, 29, Go.Proofs.Tryd.f32.results.toList⟩) (by kernel_rfl) (ls := [l_lodgeref_SameInts_0 N]) (.cons (by kernel_rfl) (g_lodgeref_SameInts_0_ok S N N) (.nil)) (by kernel_rfl) (ps := ps_lodgeref_SameInts) (rs := rs_lodgeref_SameInts) (Eq.trans (b := F_lodgeref_SameInts N x.1 x.2.1) (by kernel_rfl) h)


end Go.Proofs.YtmbcbocnncfpbaaDoor.Lg
