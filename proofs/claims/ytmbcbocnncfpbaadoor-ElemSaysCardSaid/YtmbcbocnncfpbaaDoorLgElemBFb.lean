/-
  The functions of the seat's program, as plain functions.
-/
import Derived.Test.YtmbcbocnncfpbaaDoorLgElemBFa
namespace Go.Proofs.YtmbcbocnncfpbaaDoor.Lg
open Go Go.Eng Go.Proofs
set_option maxRecDepth 100000

/-! lodge/lodgelaw7.first -/

abbrev ps_lodgelaw7_first : List Ty := []
abbrev rs_lodgelaw7_first : List Slot := [.data .bool]
abbrev cs_lodgelaw7_first (N : Nat) : List CallSpec := [c_elem_Two N, c_lodgeref_SameInts N]
noncomputable abbrev b_lodgelaw7_first : Code := (Go.Proofs.Tryd.f9.body).getD .skip

def F_lodgelaw7_first (N : Nat)  : Option (Bool × Unit) :=
  Option.bind (F_elem_Two N (4 : Int) ((([] : List Int), false), ((100 : Int) :: ([] : List Int))) ((([] : List Int), false), ((100 : Int) :: ([] : List Int)))) fun y0 =>
  cond (Go.Eng.Er.isNil ((y0).2).1)
    (
    cond (decide (((0 : Nat) + (List.length ((((y0).1).2).2).1)) ≤ (List.length ((((y0).1).2).2).1)))
      (
      Option.bind (F_lodgeref_SameInts N (List.take (List.length ((((y0).1).2).2).1) ((((y0).1).2).2).1) ((127 : Int) :: ([] : List Int))) fun y1 =>
      some y1)
      (
      none))
    (
    some (false, ()))

abbrev c_lodgelaw7_first (N : Nat) : CallSpec := ⟨9, ps_lodgelaw7_first, rs_lodgelaw7_first, fun x => F_lodgelaw7_first N ⟩

theorem cs_lodgelaw7_first_ok (S : Nat → Addr) (N : Nat) : CallsOK Go.Proofs.Tryd.prog E S (cs_lodgelaw7_first N) :=
  .cons (F_elem_Two_ok S N) (.cons (F_lodgeref_SameInts_ok S N) (.nil))
theorem F_lodgelaw7_first_ok (S : Nat → Addr) (N : Nat) : ∀ x y, (c_lodgelaw7_first N).g x = some y → FCon Go.Proofs.Tryd.prog E S 9 ps_lodgelaw7_first rs_lodgelaw7_first x y := by
  intro x y h
  exact fun_spec E_ok mixed (cs_lodgelaw7_first_ok S N) (f := 9) (fi := ⟨b_lodgelaw7_first, 20, Go.Proofs.Tryd.f9.results.toList⟩) (by kernel_rfl) (ls := []) (.nil) (by kernel_rfl) (ps := ps_lodgelaw7_first) (rs := rs_lodgelaw7_first) (Eq.trans (b := F_lodgelaw7_first N ) (by kernel_rfl) h)

/-! lodge/lodgeworld.Desc -/

abbrev ps_lodgeworld_Desc : List Ty := [(.st (.pair (.sl (.int .i64)) .bool))]
abbrev rs_lodgeworld_Desc : List Slot := [.data .bool]
abbrev cs_lodgeworld_Desc (N : Nat) : List CallSpec := []
noncomputable abbrev b_lodgeworld_Desc : Code := (Go.Proofs.Tryd.f10.body).getD .skip

def F_lodgeworld_Desc (N : Nat) (d_0 : (List Int × Bool)) : Option (Bool × Unit) :=
  some ((decide ((Nat.cast (List.length (d_0).1) : Int) ≤ (8 : Int))), ())

abbrev c_lodgeworld_Desc (N : Nat) : CallSpec := ⟨10, ps_lodgeworld_Desc, rs_lodgeworld_Desc, fun x => F_lodgeworld_Desc N x.1⟩

theorem cs_lodgeworld_Desc_ok (S : Nat → Addr) (N : Nat) : CallsOK Go.Proofs.Tryd.prog E S (cs_lodgeworld_Desc N) :=
  .nil
theorem F_lodgeworld_Desc_ok (S : Nat → Addr) (N : Nat) : ∀ x y, (c_lodgeworld_Desc N).g x = some y → FCon Go.Proofs.Tryd.prog E S 10 ps_lodgeworld_Desc rs_lodgeworld_Desc x y := by
  intro x y h
  exact fun_spec E_ok mixed (cs_lodgeworld_Desc_ok S N) (f := 10) (fi := ⟨b_lodgeworld_Desc, 7, Go.Proofs.Tryd.f10.results.toList⟩) (by kernel_rfl) (ls := []) (.nil) (by kernel_rfl) (ps := ps_lodgeworld_Desc) (rs := rs_lodgeworld_Desc) (Eq.trans (b := F_lodgeworld_Desc N x.1) (by kernel_rfl) h)

/-! lodge/lodgeref3.ValidDesc -/

abbrev ps_lodgeref3_ValidDesc : List Ty := [(.st (.pair (.sl (.int .i64)) .bool))]
abbrev rs_lodgeref3_ValidDesc : List Slot := [.data (.int .i64)]
abbrev cs_lodgeref3_ValidDesc (N : Nat) : List CallSpec := []
noncomputable abbrev b_lodgeref3_ValidDesc : Code := (Go.Proofs.Tryd.f51.body).getD .skip

abbrev h_lodgeref3_ValidDesc_0 : List Slot := [.dead, .box [.d (.st (.pair (.sl (.int .i64)) .bool))], .dead, .data (.int .i64), .data (.int .i64), .dead, .dead, .dead, .dead, .dead, .dead, .dead, .dead, .dead, .dead, .dead, .dead, .dead, .dead, .dead, .dead, .dead, .dead, .dead, .dead, .dead, .dead, .dead, .dead, .dead, .dead, .dead, .dead, .dead, .dead, .dead, .dead, .dead, .dead]
abbrev e_lodgeref3_ValidDesc_0 : List (AX × List Slot) := [(AX.exit 0, [.dead, .dead, .dead, .data (.int .i64), .dead, .dead, .dead, .dead, .dead, .dead, .dead, .dead, .dead, .dead, .dead, .dead, .dead, .dead, .dead, .dead, .dead, .dead, .dead, .dead, .dead, .dead, .dead, .dead, .dead, .dead, .dead, .dead, .dead, .dead, .dead, .dead, .dead, .dead, .dead]), (AX.ret, [.dead, .dead, .data (.int .i64), .dead, .dead, .dead, .dead, .dead, .dead, .dead, .dead, .dead, .dead, .dead, .dead, .dead, .dead, .dead, .dead, .dead, .dead, .dead, .dead, .dead, .dead, .dead, .dead, .dead, .dead, .dead, .dead, .dead, .dead, .dead, .dead, .dead, .dead, .dead, .dead])]
def g_lodgeref3_ValidDesc_0 (N : Nat) : Nat → ((List Int × Bool) × Unit) → Int → Int → Option (Sum (Int × Unit) (Int × Unit))
  | 0, _, _, _ => none
  | n + 1, d_1, n_3, i_4 =>
    cond (decide (i_4 < (Nat.cast (List.length ((d_1).1).1) : Int)))
      (
      cond (decide ((0 : Int) ≤ i_4))
        (
        cond (decide ((Int.toNat i_4) < (List.length ((d_1).1).1)))
          (
          cond (decide ((List.getD ((d_1).1).1 (Int.toNat i_4) (0 : Int)) < (1 : Int)))
            (
            some (Sum.inr ((102 : Int), ())))
            (
            cond (decide ((0 : Int) ≤ i_4))
              (
              cond (decide ((Int.toNat i_4) < (List.length ((d_1).1).1)))
                (
                cond (decide ((256 : Int) < (List.getD ((d_1).1).1 (Int.toNat i_4) (0 : Int))))
                  (
                  some (Sum.inr ((102 : Int), ())))
                  (
                  cond (decide ((0 : Int) ≤ i_4))
                    (
                    cond (decide ((Int.toNat i_4) < (List.length ((d_1).1).1)))
                      (
                      (g_lodgeref3_ValidDesc_0 N n d_1 (wi64 (n_3 * (List.getD ((d_1).1).1 (Int.toNat i_4) (0 : Int)))) (wi64 (i_4 + (1 : Int)))))
                      (
                      none))
                    (
                    none)))
                (
                none))
              (
              none)))
          (
          none))
        (
        none))
      (
      some (Sum.inl (n_3, ())))

def F_lodgeref3_ValidDesc (N : Nat) (d_0 : (List Int × Bool)) : Option (Int × Unit) :=
  cond (decide ((4 : Int) < (Nat.cast (List.length (d_0).1) : Int)))
    (
    some ((104 : Int), ()))
    (
    Option.bind (g_lodgeref3_ValidDesc_0 N N (d_0, ()) (1 : Int) (0 : Int)) fun y0 =>
    Sum.elim (fun y1 =>
      cond (decide ((16384 : Int) < (y1).1))
        (
        some ((104 : Int), ()))
        (
        some ((0 : Int), ())))
      (fun y2 =>
      some y2) y0)

abbrev c_lodgeref3_ValidDesc (N : Nat) : CallSpec := ⟨51, ps_lodgeref3_ValidDesc, rs_lodgeref3_ValidDesc, fun x => F_lodgeref3_ValidDesc N x.1⟩
abbrev l_lodgeref3_ValidDesc_0 (N : Nat) : LoopSpec := ⟨0, h_lodgeref3_ValidDesc_0, e_lodgeref3_ValidDesc_0, fun x => g_lodgeref3_ValidDesc_0 N N x.1 x.2.1 x.2.2.1⟩

theorem cs_lodgeref3_ValidDesc_ok (S : Nat → Addr) (N : Nat) : CallsOK Go.Proofs.Tryd.prog E S (cs_lodgeref3_ValidDesc N) :=
  .nil
noncomputable abbrev b_lodgeref3_ValidDesc_0 : Code := (loopsOf b_lodgeref3_ValidDesc).getD 0 .skip
theorem g_lodgeref3_ValidDesc_0_ok (S : Nat → Addr) (N : Nat) : ∀ n x y, (fun (x : Val (slotsTy h_lodgeref3_ValidDesc_0)) => g_lodgeref3_ValidDesc_0 N n x.1 x.2.1 x.2.2.1) x = some y → LoopCon Go.Proofs.Tryd.prog E S b_lodgeref3_ValidDesc_0 (encSlots h_lodgeref3_ValidDesc_0 x) (encEx e_lodgeref3_ValidDesc_0 y).1 (encEx e_lodgeref3_ValidDesc_0 y).2 :=
  loop_spec E_ok mixed (cs_lodgeref3_ValidDesc_ok S N) (all := loopsOf b_lodgeref3_ValidDesc) (ls := []) (.nil) (i := 0) (by kernel_rfl) (inner_of (by kernel_rfl)) (head := h_lodgeref3_ValidDesc_0) (ex := e_lodgeref3_ValidDesc_0) (fun n (x : Val (slotsTy h_lodgeref3_ValidDesc_0)) => g_lodgeref3_ValidDesc_0 N n x.1 x.2.1 x.2.2.1) (fun _ => rfl) (fun n x => by kernel_rfl)
theorem F_lodgeref3_ValidDesc_ok (S : Nat → Addr) (N : Nat) : ∀ x y, (c_lodgeref3_ValidDesc N).g x = some y → FCon Go.Proofs.Tryd.prog E S 51 ps_lodgeref3_ValidDesc rs_lodgeref3_ValidDesc x y := by
  intro x y h
  exact fun_spec E_ok mixed (cs_lodgeref3_ValidDesc_ok S N) (f := 51) (fi := ⟨b_lodgeref3_ValidDesc, 39, Go.Proofs.Tryd.f51.results.toList⟩) (by kernel_rfl) (ls := [l_lodgeref3_ValidDesc_0 N]) (.cons (by kernel_rfl) (g_lodgeref3_ValidDesc_0_ok S N N) (.nil)) (by kernel_rfl) (ps := ps_lodgeref3_ValidDesc) (rs := rs_lodgeref3_ValidDesc) (Eq.trans (b := F_lodgeref3_ValidDesc N x.1) (by kernel_rfl) h)

/-! lodge/lodgeref3.descs -/

abbrev ps_lodgeref3_descs : List Ty := [(.sl (.st (.pair (.sl (.int .i64)) .bool)))]
abbrev rs_lodgeref3_descs : List Slot := [.data (.int .i64)]
abbrev cs_lodgeref3_descs (N : Nat) : List CallSpec := [c_lodgeref3_ValidDesc N]
noncomputable abbrev b_lodgeref3_descs : Code := (Go.Proofs.Tryd.f39.body).getD .skip

abbrev h_lodgeref3_descs_0 : List Slot := [.data (.sl (.st (.pair (.sl (.int .i64)) .bool))), .dead, .dead, .data (.int .i64), .dead, .dead, .dead, .dead, .dead, .dead, .dead, .dead, .dead, .dead, .dead, .dead, .dead, .dead, .dead]
abbrev e_lodgeref3_descs_0 : List (AX × List Slot) := [(AX.exit 0, [.dead, .dead, .dead, .dead, .dead, .dead, .dead, .dead, .dead, .dead, .dead, .dead, .dead, .dead, .dead, .dead, .dead, .dead, .dead]), (AX.ret, [.dead, .dead, .data (.int .i64), .dead, .dead, .dead, .dead, .dead, .dead, .dead, .dead, .dead, .dead, .dead, .dead, .dead, .dead, .dead, .dead])]
def g_lodgeref3_descs_0 (N : Nat) : Nat → List ((List Int × Bool)) → Int → Option (Sum Unit (Int × Unit))
  | 0, _, _ => none
  | n + 1, l_0, i_3 =>
    cond (decide (i_3 < (Nat.cast (List.length l_0) : Int)))
      (
      cond (decide ((0 : Int) ≤ i_3))
        (
        cond (decide ((Int.toNat i_3) < (List.length l_0)))
          (
          Option.bind (F_lodgeref3_ValidDesc N (List.getD l_0 (Int.toNat i_3) (([] : List Int), false))) fun y1 =>
          cond (decide (@Ne Int (y1).1 (0 : Int)))
            (
            some (Sum.inr y1))
            (
            (g_lodgeref3_descs_0 N n l_0 (wi64 (i_3 + (1 : Int))))))
          (
          none))
        (
        none))
      (
      some (Sum.inl ()))

def F_lodgeref3_descs (N : Nat) (l_0 : List ((List Int × Bool))) : Option (Int × Unit) :=
  Option.bind (g_lodgeref3_descs_0 N N l_0 (0 : Int)) fun y0 =>
  Sum.elim (fun y1 =>
    some ((0 : Int), ()))
    (fun y2 =>
    some y2) y0

abbrev c_lodgeref3_descs (N : Nat) : CallSpec := ⟨39, ps_lodgeref3_descs, rs_lodgeref3_descs, fun x => F_lodgeref3_descs N x.1⟩
abbrev l_lodgeref3_descs_0 (N : Nat) : LoopSpec := ⟨0, h_lodgeref3_descs_0, e_lodgeref3_descs_0, fun x => g_lodgeref3_descs_0 N N x.1 x.2.1⟩

theorem cs_lodgeref3_descs_ok (S : Nat → Addr) (N : Nat) : CallsOK Go.Proofs.Tryd.prog E S (cs_lodgeref3_descs N) :=
  .cons (F_lodgeref3_ValidDesc_ok S N) (.nil)
noncomputable abbrev b_lodgeref3_descs_0 : Code := (loopsOf b_lodgeref3_descs).getD 0 .skip
theorem g_lodgeref3_descs_0_ok (S : Nat → Addr) (N : Nat) : ∀ n x y, (fun (x : Val (slotsTy h_lodgeref3_descs_0)) => g_lodgeref3_descs_0 N n x.1 x.2.1) x = some y → LoopCon Go.Proofs.Tryd.prog E S b_lodgeref3_descs_0 (encSlots h_lodgeref3_descs_0 x) (encEx e_lodgeref3_descs_0 y).1 (encEx e_lodgeref3_descs_0 y).2 :=
  loop_spec E_ok mixed (cs_lodgeref3_descs_ok S N) (all := loopsOf b_lodgeref3_descs) (ls := []) (.nil) (i := 0) (by kernel_rfl) (inner_of (by kernel_rfl)) (head := h_lodgeref3_descs_0) (ex := e_lodgeref3_descs_0) (fun n (x : Val (slotsTy h_lodgeref3_descs_0)) => g_lodgeref3_descs_0 N n x.1 x.2.1) (fun _ => rfl) (fun n x => by kernel_rfl)
theorem F_lodgeref3_descs_ok (S : Nat → Addr) (N : Nat) : ∀ x y, (c_lodgeref3_descs N).g x = some y → FCon Go.Proofs.Tryd.prog E S 39 ps_lodgeref3_descs rs_lodgeref3_descs x y := by
  intro x y h
  exact fun_spec E_ok mixed (cs_lodgeref3_descs_ok S N) (f := 39) (fi := ⟨b_lodgeref3_descs, 19, Go.Proofs.Tryd.f39.results.toList⟩) (by kernel_rfl) (ls := [l_lodgeref3_descs_0 N]) (.cons (by kernel_rfl) (g_lodgeref3_descs_0_ok S N N) (.nil)) (by kernel_rfl) (ps := ps_lodgeref3_descs) (rs := rs_lodgeref3_descs) (Eq.trans (b := F_lodgeref3_descs N x.1) (by kernel_rfl) h)

/-! lodge/lodgeref.SameDesc -/

abbrev ps_lodgeref_SameDesc : List Ty := [(.st (.pair (.sl (.int .i64)) .bool)), (.st (.pair (.sl (.int .i64)) .bool))]
abbrev rs_lodgeref_SameDesc : List Slot := [.data .bool]
abbrev cs_lodgeref_SameDesc (N : Nat) : List CallSpec := [c_lodgeref_SameInts N]
noncomputable abbrev b_lodgeref_SameDesc : Code := (Go.Proofs.Tryd.f14.body).getD .skip

def F_lodgeref_SameDesc (N : Nat) (a_0 : (List Int × Bool)) (b_1 : (List Int × Bool)) : Option (Bool × Unit) :=
  Option.bind (F_lodgeref_SameInts N (a_0).1 (b_1).1) fun y0 =>
  cond (y0).1
    (
    some (((a_0).2 == (b_1).2), ()))
    (
    some (false, ()))

abbrev c_lodgeref_SameDesc (N : Nat) : CallSpec := ⟨14, ps_lodgeref_SameDesc, rs_lodgeref_SameDesc, fun x => F_lodgeref_SameDesc N x.1 x.2.1⟩

theorem cs_lodgeref_SameDesc_ok (S : Nat → Addr) (N : Nat) : CallsOK Go.Proofs.Tryd.prog E S (cs_lodgeref_SameDesc N) :=
  .cons (F_lodgeref_SameInts_ok S N) (.nil)
theorem F_lodgeref_SameDesc_ok (S : Nat → Addr) (N : Nat) : ∀ x y, (c_lodgeref_SameDesc N).g x = some y → FCon Go.Proofs.Tryd.prog E S 14 ps_lodgeref_SameDesc rs_lodgeref_SameDesc x y := by
  intro x y h
  exact fun_spec E_ok mixed (cs_lodgeref_SameDesc_ok S N) (f := 14) (fi := ⟨b_lodgeref_SameDesc, 19, Go.Proofs.Tryd.f14.results.toList⟩) (by kernel_rfl) (ls := []) (.nil) (by kernel_rfl) (ps := ps_lodgeref_SameDesc) (rs := rs_lodgeref_SameDesc) (Eq.trans (b := F_lodgeref_SameDesc N x.1 x.2.1) (by kernel_rfl) h)

/-! lodge/lodgeref.Ints -/

abbrev ps_lodgeref_Ints : List Ty := [(.sl (.int .i64))]
abbrev rs_lodgeref_Ints : List Slot := [.sl (.int .i64)]
abbrev cs_lodgeref_Ints (N : Nat) : List CallSpec := []
noncomputable abbrev b_lodgeref_Ints : Code := (Go.Proofs.Tryd.f64.body).getD .skip

abbrev h_lodgeref_Ints_0 : List Slot := [.data (.sl (.int .i64)), .dead, .dead, .sl (.int .i64), .data (.int .i64), .dead, .dead, .dead, .dead, .dead, .dead, .dead, .dead, .dead, .dead, .dead, .dead, .dead, .dead, .dead, .dead, .dead]
abbrev e_lodgeref_Ints_0 : List (AX × List Slot) := [(AX.exit 0, [.dead, .dead, .dead, .sl (.int .i64), .dead, .dead, .dead, .dead, .dead, .dead, .dead, .dead, .dead, .dead, .dead, .dead, .dead, .dead, .dead, .dead, .dead, .dead])]
def g_lodgeref_Ints_0 (N : Nat) : Nat → List Int → List Int → Int → Option (List Int × Unit)
  | 0, _, _, _ => none
  | n + 1, l_0, out_3, i_4 =>
    cond (decide (i_4 < (Nat.cast (List.length l_0) : Int)))
      (
      cond (decide ((0 : Int) ≤ i_4))
        (
        cond (decide ((Int.toNat i_4) < (List.length l_0)))
          (
          cond (decide (((0 : Nat) + (List.length out_3)) = (List.length out_3)))
            (
            cond (decide ((((List.length out_3) + 1) * (8 + (1 : Nat))) ≤ Go.Eng.most))
              (
              cond (decide (((List.length out_3) + 1) = (List.length ((List.take (List.length out_3) out_3) ++ ((List.getD l_0 (Int.toNat i_4) (0 : Int)) :: ([] : List Int))))))
                (
                (g_lodgeref_Ints_0 N n l_0 ((List.take (List.length out_3) out_3) ++ ((List.getD l_0 (Int.toNat i_4) (0 : Int)) :: ([] : List Int))) (wi64 (i_4 + (1 : Int)))))
                (
                none))
              (
              none))
            (
            none))
          (
          none))
        (
        none))
      (
      cond (decide ((List.length out_3) = (List.length out_3)))
        (
        some (out_3, ()))
        (
        none))

def F_lodgeref_Ints (N : Nat) (l_0 : List Int) : Option (List Int × Unit) :=
  cond (decide (((Nat.cast (List.length l_0) : Int) * ((Nat.cast 8 : Int) + (1 : Int))) ≤ (Nat.cast Go.Eng.most : Int)))
    (
    Option.bind (g_lodgeref_Ints_0 N N l_0 (List.replicate 0 (0 : Int)) (0 : Int)) fun y0 =>
    cond (decide ((List.length (y0).1) = (List.length (y0).1)))
      (
      some y0)
      (
      none))
    (
    none)

abbrev c_lodgeref_Ints (N : Nat) : CallSpec := ⟨64, ps_lodgeref_Ints, rs_lodgeref_Ints, fun x => F_lodgeref_Ints N x.1⟩
abbrev l_lodgeref_Ints_0 (N : Nat) : LoopSpec := ⟨0, h_lodgeref_Ints_0, e_lodgeref_Ints_0, fun x => g_lodgeref_Ints_0 N N x.1 x.2.1 x.2.2.1⟩

theorem cs_lodgeref_Ints_ok (S : Nat → Addr) (N : Nat) : CallsOK Go.Proofs.Tryd.prog E S (cs_lodgeref_Ints N) :=
  .nil
noncomputable abbrev b_lodgeref_Ints_0 : Code := (loopsOf b_lodgeref_Ints).getD 0 .skip
theorem g_lodgeref_Ints_0_ok (S : Nat → Addr) (N : Nat) : ∀ n x y, (fun (x : Val (slotsTy h_lodgeref_Ints_0)) => g_lodgeref_Ints_0 N n x.1 x.2.1 x.2.2.1) x = some y → LoopCon Go.Proofs.Tryd.prog E S b_lodgeref_Ints_0 (encSlots h_lodgeref_Ints_0 x) (encEx e_lodgeref_Ints_0 y).1 (encEx e_lodgeref_Ints_0 y).2 :=
  loop_spec E_ok mixed (cs_lodgeref_Ints_ok S N) (all := loopsOf b_lodgeref_Ints) (ls := []) (.nil) (i := 0) (by kernel_rfl) (inner_of (by kernel_rfl)) (head := h_lodgeref_Ints_0) (ex := e_lodgeref_Ints_0) (fun n (x : Val (slotsTy h_lodgeref_Ints_0)) => g_lodgeref_Ints_0 N n x.1 x.2.1 x.2.2.1) (fun _ => rfl) (fun n x => by kernel_rfl)
theorem F_lodgeref_Ints_ok (S : Nat → Addr) (N : Nat) : ∀ x y, (c_lodgeref_Ints N).g x = some y → FCon Go.Proofs.Tryd.prog E S 64 ps_lodgeref_Ints rs_lodgeref_Ints x y := by
  intro x y h
  exact fun_spec E_ok mixed (cs_lodgeref_Ints_ok S N) (f := 64) (fi := ⟨b_lodgeref_Ints, 22, Go.Proofs.Tryd.f64.results.toList⟩) (by kernel_rfl) (ls := [l_lodgeref_Ints_0 N]) (.cons (by kernel_rfl) (g_lodgeref_Ints_0_ok S N N) (.nil)) (by kernel_rfl) (ps := ps_lodgeref_Ints) (rs := rs_lodgeref_Ints) (Eq.trans (b := F_lodgeref_Ints N x.1) (by kernel_rfl) h)

/-! lodge/lodgeref.Desc -/

abbrev ps_lodgeref_Desc : List Ty := [(.st (.pair (.sl (.int .i64)) .bool))]
abbrev rs_lodgeref_Desc : List Slot := [.ag [.sl (.int .i64), .d .bool]]
abbrev cs_lodgeref_Desc (N : Nat) : List CallSpec := [c_lodgeref_Ints N]
noncomputable abbrev b_lodgeref_Desc : Code := (Go.Proofs.Tryd.f40.body).getD .skip

def F_lodgeref_Desc (N : Nat) (a_0 : (List Int × Bool)) : Option ((List Int × (Bool × Unit)) × Unit) :=
  Option.bind (F_lodgeref_Ints N (a_0).1) fun y0 =>
  cond (decide ((List.length (y0).1) = (List.length (y0).1)))
    (
    some (((y0).1, ((a_0).2, ())), ()))
    (
    none)

abbrev c_lodgeref_Desc (N : Nat) : CallSpec := ⟨40, ps_lodgeref_Desc, rs_lodgeref_Desc, fun x => F_lodgeref_Desc N x.1⟩

theorem cs_lodgeref_Desc_ok (S : Nat → Addr) (N : Nat) : CallsOK Go.Proofs.Tryd.prog E S (cs_lodgeref_Desc N) :=
  .cons (F_lodgeref_Ints_ok S N) (.nil)
theorem F_lodgeref_Desc_ok (S : Nat → Addr) (N : Nat) : ∀ x y, (c_lodgeref_Desc N).g x = some y → FCon Go.Proofs.Tryd.prog E S 40 ps_lodgeref_Desc rs_lodgeref_Desc x y := by
  intro x y h
  exact fun_spec E_ok mixed (cs_lodgeref_Desc_ok S N) (f := 40) (fi := ⟨b_lodgeref_Desc, 9, Go.Proofs.Tryd.f40.results.toList⟩) (by kernel_rfl) (ls := []) (.nil) (by kernel_rfl) (ps := ps_lodgeref_Desc) (rs := rs_lodgeref_Desc) (Eq.trans (b := F_lodgeref_Desc N x.1) (by kernel_rfl) h)

/-! lodge/lodgeref3.in -/

abbrev ps_lodgeref3_in : List Ty := [(.int .i64), .bool]
abbrev rs_lodgeref3_in : List Slot := [.data .bool]
abbrev cs_lodgeref3_in (N : Nat) : List CallSpec := []
noncomputable abbrev b_lodgeref3_in : Code := (Go.Proofs.Tryd.f41.body).getD .skip

def F_lodgeref3_in (N : Nat) (n_0 : Int) (wide_1 : Bool) : Option (Bool × Unit) :=
  cond wide_1
    (
    cond (decide ((-(2147483648 : Int)) ≤ n_0))
      (
      some ((decide (n_0 ≤ (2147483647 : Int))), ()))
      (
      some (false, ())))
    (
    cond (decide ((-(128 : Int)) ≤ n_0))
      (
      some ((decide (n_0 ≤ (127 : Int))), ()))
      (
      some (false, ())))

abbrev c_lodgeref3_in (N : Nat) : CallSpec := ⟨41, ps_lodgeref3_in, rs_lodgeref3_in, fun x => F_lodgeref3_in N x.1 x.2.1⟩

theorem cs_lodgeref3_in_ok (S : Nat → Addr) (N : Nat) : CallsOK Go.Proofs.Tryd.prog E S (cs_lodgeref3_in N) :=
  .nil
theorem F_lodgeref3_in_ok (S : Nat → Addr) (N : Nat) : ∀ x y, (c_lodgeref3_in N).g x = some y → FCon Go.Proofs.Tryd.prog E S 41 ps_lodgeref3_in rs_lodgeref3_in x y := by
  intro x y h
  exact fun_spec E_ok mixed (cs_lodgeref3_in_ok S N) (f := 41) (fi := ⟨b_lodgeref3_in, 18, Go.Proofs.Tryd.f41.results.toList⟩) (by kernel_rfl) (ls := []) (.nil) (by kernel_rfl) (ps := ps_lodgeref3_in) (rs := rs_lodgeref3_in) (Eq.trans (b := F_lodgeref3_in N x.1 x.2.1) (by kernel_rfl) h)

/-! lodge/lodgeref3.narrow -/

abbrev ps_lodgeref3_narrow : List Ty := [(.int .i64)]
abbrev rs_lodgeref3_narrow : List Slot := [.data .bool]
abbrev cs_lodgeref3_narrow (N : Nat) : List CallSpec := [c_lodgeref3_in N]
noncomputable abbrev b_lodgeref3_narrow : Code := (Go.Proofs.Tryd.f42.body).getD .skip

def F_lodgeref3_narrow (N : Nat) (n_0 : Int) : Option (Bool × Unit) :=
  Option.bind (F_lodgeref3_in N n_0 false) fun y0 =>
  some y0

abbrev c_lodgeref3_narrow (N : Nat) : CallSpec := ⟨42, ps_lodgeref3_narrow, rs_lodgeref3_narrow, fun x => F_lodgeref3_narrow N x.1⟩

theorem cs_lodgeref3_narrow_ok (S : Nat → Addr) (N : Nat) : CallsOK Go.Proofs.Tryd.prog E S (cs_lodgeref3_narrow N) :=
  .cons (F_lodgeref3_in_ok S N) (.nil)
theorem F_lodgeref3_narrow_ok (S : Nat → Addr) (N : Nat) : ∀ x y, (c_lodgeref3_narrow N).g x = some y → FCon Go.Proofs.Tryd.prog E S 42 ps_lodgeref3_narrow rs_lodgeref3_narrow x y := by
  intro x y h
  exact fun_spec E_ok mixed (cs_lodgeref3_narrow_ok S N) (f := 42) (fi := ⟨b_lodgeref3_narrow, 5, Go.Proofs.Tryd.f42.results.toList⟩) (by kernel_rfl) (ls := []) (.nil) (by kernel_rfl) (ps := ps_lodgeref3_narrow) (rs := rs_lodgeref3_narrow) (Eq.trans (b := F_lodgeref3_narrow N x.1) (by kernel_rfl) h)

/-! lodge/lodgeref3.ElemResult -/

abbrev ps_lodgeref3_ElemResult : List Ty := [(.int .i64), (.sl (.int .i64)), (.sl (.st (.pair (.sl (.int .i64)) .bool)))]
abbrev rs_lodgeref3_ElemResult : List Slot := [.ag [.sl (.int .i64), .d .bool], .data (.int .i64)]
abbrev cs_lodgeref3_ElemResult (N : Nat) : List CallSpec := [c_lodgeref3_descs N, c_lodgeref_SameDesc N, c_lodgeref_Desc N, c_lodgeref3_in N, c_lodgeref3_narrow N]
noncomputable abbrev b_lodgeref3_ElemResult : Code := (Go.Proofs.Tryd.f12.body).getD .skip

abbrev j_lodgeref3_ElemResult : Joins := [(29, [(AX.normal, [.dead, .dead, .dead, .dead, .dead, .dead, .box [.sl (.int .i64), .d .bool], .dead, .dead, .dead, .dead, .dead, .dead, .box [.sl (.int .i64), .d .bool], .dead, .dead, .dead, .dead, .dead, .dead, .dead, .dead, .dead, .dead, .dead, .dead, .dead, .dead, .dead, .dead, .dead, .dead, .dead, .dead, .dead, .dead, .dead, .dead, .dead, .dead, .dead, .dead, .dead, .dead, .dead, .dead, .dead, .dead, .dead, .dead, .dead, .dead, .dead, .dead, .dead, .dead, .dead, .dead, .dead, .dead, .dead, .dead, .dead, .dead, .dead, .dead, .dead, .dead, .dead, .dead, .dead, .dead, .dead, .dead, .dead, .dead, .dead, .dead, .dead, .dead, .dead, .dead, .dead, .dead, .dead, .dead, .dead, .dead, .dead, .dead, .dead, .dead, .dead, .dead, .dead, .dead, .dead, .dead, .dead, .dead, .dead, .dead, .dead, .dead, .dead, .dead, .dead, .dead, .dead, .dead, .dead, .dead, .dead, .dead, .dead, .dead, .dead, .dead, .dead, .dead, .dead, .dead, .dead, .dead, .dead, .dead, .dead, .dead, .dead, .dead, .dead, .data .bool, .dead, .dead, .dead, .dead, .dead, .dead, .dead, .dead, .dead, .dead, .dead, .dead, .dead, .dead, .dead, .dead, .dead, .dead, .dead, .dead, .dead, .dead, .dead, .dead, .dead, .dead, .dead, .dead, .dead, .dead, .dead, .dead, .dead, .dead, .dead, .dead, .dead, .dead, .dead, .dead, .dead, .dead, .dead, .dead])]),
  (33, [(AX.normal, [.dead, .dead, .dead, .dead, .dead, .dead, .box [.sl (.int .i64), .d .bool], .dead, .dead, .dead, .dead, .dead, .dead, .box [.sl (.int .i64), .d .bool], .dead, .dead, .dead, .dead, .dead, .dead, .dead, .dead, .dead, .dead, .dead, .dead, .dead, .dead, .dead, .dead, .dead, .dead, .dead, .dead, .dead, .dead, .dead, .dead, .dead, .dead, .dead, .dead, .dead, .dead, .dead, .dead, .dead, .dead, .dead, .dead, .dead, .dead, .dead, .dead, .dead, .dead, .dead, .dead, .dead, .dead, .dead, .dead, .dead, .dead, .dead, .dead, .dead, .dead, .dead, .dead, .dead, .dead, .dead, .dead, .dead, .dead, .dead, .dead, .dead, .dead, .dead, .dead, .dead, .dead, .dead, .dead, .dead, .dead, .dead, .dead, .dead, .dead, .dead, .dead, .dead, .dead, .dead, .dead, .dead, .dead, .dead, .dead, .dead, .dead, .dead, .dead, .dead, .dead, .dead, .dead, .dead, .dead, .dead, .dead, .dead, .dead, .dead, .dead, .dead, .dead, .dead, .dead, .dead, .dead, .dead, .dead, .dead, .dead, .dead, .dead, .dead, .dead, .dead, .dead, .dead, .dead, .dead, .dead, .dead, .dead, .dead, .dead, .dead, .dead, .dead, .dead, .dead, .dead, .dead, .dead, .dead, .dead, .dead, .dead, .dead, .dead, .dead, .dead, .dead, .dead, .dead, .dead, .dead, .data .bool, .dead, .dead, .dead, .dead, .dead, .dead, .dead, .dead, .dead, .dead, .dead, .dead])]),
  (23, [(AX.normal, [.data (.int .i64), .data (.sl (.int .i64)), .dead, .dead, .dead, .dead, .box [.sl (.int .i64), .d .bool], .dead, .dead, .dead, .dead, .dead, .box [.d (.st (.pair (.sl (.int .i64)) .bool))], .dead, .dead, .dead, .dead, .dead, .dead, .dead, .dead, .dead, .dead, .dead, .dead, .dead, .dead, .dead, .dead, .dead, .dead, .dead, .dead, .dead, .dead, .dead, .dead, .dead, .dead, .dead, .dead, .dead, .dead, .dead, .dead, .dead, .dead, .dead, .dead, .dead, .dead, .dead, .dead, .dead, .dead, .dead, .dead, .dead, .dead, .dead, .dead, .dead, .dead, .dead, .dead, .dead, .dead, .dead, .dead, .dead, .dead, .dead, .dead, .dead, .dead, .dead, .dead, .dead, .dead, .dead, .dead, .dead, .dead, .dead, .dead, .dead, .dead, .dead, .dead, .dead, .dead, .dead, .dead, .dead, .dead, .dead, .dead, .dead, .dead, .dead, .data .bool, .dead, .dead, .dead, .dead, .dead, .dead, .dead, .dead, .dead, .dead, .dead, .dead, .dead, .dead, .dead, .dead, .dead, .dead, .dead, .dead, .dead, .dead, .dead, .dead, .dead, .dead, .dead, .dead, .dead, .dead, .dead, .dead, .dead, .dead, .dead, .dead, .dead, .dead, .dead, .dead, .dead, .dead, .dead, .dead, .dead, .dead, .dead, .dead, .dead, .dead, .dead, .dead, .dead, .dead, .dead, .dead, .dead, .dead, .dead, .dead, .dead, .dead, .dead, .dead, .dead, .dead, .dead, .dead, .dead, .dead, .dead, .dead, .dead, .dead, .dead])]),
  (15, [(AX.normal, [.data (.int .i64), .data (.sl (.int .i64)), .data (.sl (.st (.pair (.sl (.int .i64)) .bool))), .dead, .dead, .dead, .box [.sl (.int .i64), .d .bool], .dead, .data .bool, .dead, .dead, .dead, .dead, .dead, .dead, .dead, .dead, .dead, .dead, .dead, .dead, .dead, .dead, .dead, .dead, .dead, .dead, .dead, .dead, .dead, .dead, .dead, .dead, .dead, .dead, .dead, .dead, .dead, .dead, .dead, .dead, .dead, .dead, .dead, .dead, .dead, .dead, .dead, .dead, .dead, .dead, .dead, .dead, .dead, .dead, .dead, .dead, .dead, .dead, .dead, .dead, .dead, .dead, .dead, .data .bool, .dead, .dead, .dead, .dead, .dead, .dead, .dead, .dead, .dead, .dead, .dead, .dead, .dead, .dead, .dead, .dead, .dead, .dead, .dead, .dead, .dead, .dead, .dead, .dead, .dead, .dead, .dead, .dead, .dead, .dead, .dead, .dead, .dead, .dead, .dead, .dead, .dead, .dead, .dead, .dead, .dead, .dead, .dead, .dead, .dead, .dead, .dead, .dead, .dead, .dead, .dead, .dead, .dead, .dead, .dead, .dead, .dead, .dead, .dead, .dead, .dead, .dead, .dead, .dead, .dead, .dead, .dead, .dead, .dead, .dead, .dead, .dead, .dead, .dead, .dead, .dead, .dead, .dead, .dead, .dead, .dead, .dead, .dead, .dead, .dead, .dead, .dead, .dead, .dead, .dead, .dead, .dead, .dead, .dead, .dead, .dead, .dead, .dead, .dead, .dead, .dead, .dead, .dead, .dead, .dead, .dead, .dead, .dead, .dead, .dead, .dead])]),
  (12, [(AX.normal, [.data (.int .i64), .data (.sl (.int .i64)), .data (.sl (.st (.pair (.sl (.int .i64)) .bool))), .dead, .dead, .dead, .box [.sl (.int .i64), .d .bool], .dead, .data .bool, .data (.int .i64), .data (.int .i64), .dead, .dead, .dead, .dead, .dead, .dead, .dead, .dead, .dead, .dead, .dead, .dead, .dead, .dead, .dead, .dead, .dead, .dead, .dead, .dead, .dead, .dead, .dead, .dead, .dead, .dead, .dead, .dead, .dead, .dead, .dead, .dead, .dead, .dead, .dead, .dead, .dead, .dead, .dead, .dead, .dead, .dead, .dead, .dead, .dead, .dead, .dead, .dead, .dead, .dead, .dead, .dead, .dead, .dead, .dead, .dead, .dead, .dead, .dead, .dead, .dead, .dead, .dead, .dead, .dead, .dead, .dead, .dead, .dead, .dead, .dead, .dead, .dead, .dead, .dead, .dead, .dead, .dead, .dead, .dead, .dead, .dead, .dead, .dead, .dead, .dead, .dead, .dead, .dead, .dead, .dead, .dead, .dead, .dead, .dead, .dead, .dead, .dead, .dead, .dead, .dead, .dead, .dead, .dead, .dead, .dead, .dead, .dead, .dead, .dead, .dead, .dead, .dead, .dead, .dead, .dead, .dead, .dead, .dead, .dead, .dead, .dead, .dead, .dead, .dead, .dead, .dead, .dead, .dead, .dead, .dead, .dead, .dead, .dead, .dead, .dead, .dead, .dead, .dead, .dead, .dead, .dead, .dead, .dead, .dead, .dead, .dead, .dead, .dead, .dead, .dead, .dead, .dead, .dead, .dead, .dead, .dead, .dead, .dead, .dead, .dead, .dead, .dead, .dead, .dead])]),
  (7, [(AX.normal, [.data (.int .i64), .data (.sl (.int .i64)), .data (.sl (.st (.pair (.sl (.int .i64)) .bool))), .dead, .dead, .dead, .box [.sl (.int .i64), .d .bool], .dead, .data .bool, .data (.int .i64), .data (.int .i64), .dead, .dead, .dead, .dead, .dead, .dead, .dead, .dead, .dead, .dead, .dead, .dead, .dead, .dead, .dead, .dead, .dead, .dead, .dead, .dead, .dead, .dead, .dead, .dead, .dead, .dead, .dead, .dead, .dead, .dead, .dead, .dead, .dead, .dead, .dead, .dead, .dead, .dead, .dead, .dead, .dead, .dead, .dead, .dead, .dead, .dead, .dead, .dead, .dead, .dead, .dead, .dead, .dead, .dead, .dead, .dead, .dead, .dead, .dead, .dead, .dead, .dead, .dead, .dead, .dead, .dead, .dead, .dead, .dead, .dead, .dead, .dead, .dead, .dead, .dead, .dead, .dead, .dead, .dead, .dead, .dead, .dead, .dead, .dead, .dead, .dead, .dead, .dead, .dead, .dead, .dead, .dead, .dead, .dead, .dead, .dead, .dead, .dead, .dead, .dead, .dead, .dead, .dead, .dead, .dead, .dead, .dead, .dead, .dead, .dead, .dead, .dead, .dead, .dead, .dead, .dead, .dead, .dead, .dead, .dead, .dead, .dead, .dead, .dead, .dead, .dead, .dead, .dead, .dead, .dead, .dead, .dead, .dead, .dead, .dead, .dead, .dead, .dead, .dead, .dead, .dead, .dead, .dead, .dead, .dead, .dead, .dead, .dead, .dead, .dead, .dead, .dead, .dead, .dead, .dead, .dead, .dead, .dead, .dead, .dead, .dead, .dead, .dead, .dead, .dead])]),
  (3, [(AX.normal, [.data (.int .i64), .data (.sl (.int .i64)), .data (.sl (.st (.pair (.sl (.int .i64)) .bool))), .dead, .dead, .dead, .box [.sl (.int .i64), .d .bool], .dead, .data .bool, .dead, .dead, .dead, .dead, .dead, .dead, .dead, .dead, .dead, .dead, .dead, .dead, .dead, .dead, .dead, .dead, .dead, .dead, .dead, .dead, .dead, .dead, .dead, .dead, .dead, .dead, .dead, .dead, .dead, .dead, .dead, .dead, .dead, .dead, .dead, .dead, .data .bool, .dead, .dead, .dead, .dead, .dead, .dead, .dead, .dead, .dead, .dead, .dead, .dead, .dead, .dead, .dead, .dead, .dead, .dead, .dead, .dead, .dead, .dead, .dead, .dead, .dead, .dead, .dead, .dead, .dead, .dead, .dead, .dead, .dead, .dead, .dead, .dead, .dead, .dead, .dead, .dead, .dead, .dead, .dead, .dead, .dead, .dead, .dead, .dead, .dead, .dead, .dead, .dead, .dead, .dead, .dead, .dead, .dead, .dead, .dead, .dead, .dead, .dead, .dead, .dead, .dead, .dead, .dead, .dead, .dead, .dead, .dead, .dead, .dead, .dead, .dead, .dead, .dead, .dead, .dead, .dead, .dead, .dead, .dead, .dead, .dead, .dead, .dead, .dead, .dead, .dead, .dead, .dead, .dead, .dead, .dead, .dead, .dead, .dead, .dead, .dead, .dead, .dead, .dead, .dead, .dead, .dead, .dead, .dead, .dead, .dead, .dead, .dead, .dead, .dead, .dead, .dead, .dead, .dead, .dead, .dead, .dead, .dead, .dead, .dead, .dead, .dead, .dead, .dead, .dead, .dead])]),
  (1, [(AX.normal, [.data (.int .i64), .data (.sl (.int .i64)), .data (.sl (.st (.pair (.sl (.int .i64)) .bool))), .dead, .dead, .dead, .box [.sl (.int .i64), .d .bool], .dead, .data .bool, .dead, .dead, .dead, .dead, .dead, .dead, .dead, .dead, .dead, .dead, .dead, .dead, .dead, .dead, .dead, .dead, .dead, .dead, .dead, .dead, .dead, .dead, .dead, .dead, .dead, .dead, .dead, .dead, .dead, .dead, .dead, .dead, .dead, .dead, .dead, .dead, .dead, .dead, .dead, .dead, .dead, .dead, .dead, .dead, .dead, .dead, .dead, .dead, .dead, .dead, .dead, .dead, .dead, .dead, .dead, .dead, .dead, .dead, .dead, .dead, .dead, .dead, .dead, .dead, .dead, .dead, .dead, .dead, .dead, .dead, .dead, .dead, .dead, .dead, .dead, .dead, .dead, .dead, .dead, .dead, .dead, .dead, .dead, .dead, .dead, .dead, .dead, .dead, .dead, .dead, .dead, .dead, .dead, .dead, .dead, .dead, .dead, .dead, .dead, .dead, .dead, .dead, .dead, .dead, .dead, .dead, .dead, .dead, .dead, .dead, .dead, .dead, .dead, .dead, .dead, .dead, .dead, .dead, .dead, .dead, .dead, .dead, .dead, .dead, .dead, .dead, .dead, .dead, .dead, .dead, .dead, .dead, .dead, .dead, .dead, .dead, .dead, .dead, .dead, .dead, .dead, .dead, .dead, .dead, .dead, .dead, .dead, .dead, .dead, .dead, .dead, .dead, .dead, .dead, .dead, .dead, .dead, .dead, .dead, .dead, .dead, .dead, .dead, .dead, .dead, .dead, .dead])])]
def F_lodgeref3_ElemResult (N : Nat) (op_0 : Int) (args_1 : List Int) (ins_2 : List ((List Int × Bool))) : Option ((List Int × (Bool × Unit)) × (Int × Unit)) :=
  Option.bind (
      cond (decide (op_0 = (4 : Int)))
        (
        some (op_0, (args_1, (ins_2, ((([] : List Int), (false, ())), (true, ()))))))
        (
        cond (decide (op_0 = (5 : Int)))
          (
          some (op_0, (args_1, (ins_2, ((([] : List Int), (false, ())), (true, ()))))))
          (
          cond (decide (op_0 = (6 : Int)))
            (
            some (op_0, (args_1, (ins_2, ((([] : List Int), (false, ())), (true, ()))))))
            (
            some (op_0, (args_1, (ins_2, ((([] : List Int), (false, ())), ((decide (op_0 = (7 : Int))), ()))))))))) fun y0 =>
  Option.bind (
      cond (Bool.not (((((y0).2).2).2).2).1)
        (
        cond (decide (@Ne Int (y0).1 (8 : Int)))
          (
          cond (decide (@Ne Int (y0).1 (9 : Int)))
            (
            cond (decide (@Ne Int (y0).1 (10 : Int)))
              (
              cond (decide ((List.length (((((y0).2).2).2).1).1) = (List.length (((((y0).2).2).2).1).1)))
                (
                some ((y0).1, (((y0).2).1, ((((y0).2).2).1, (((((y0).2).2).2).1, ((((((y0).2).2).2).2).1, ((decide (@Ne Int (y0).1 (11 : Int))), ())))))))
                (
                none))
              (
              cond (decide ((List.length (((((y0).2).2).2).1).1) = (List.length (((((y0).2).2).2).1).1)))
                (
                some ((y0).1, (((y0).2).1, ((((y0).2).2).1, (((((y0).2).2).2).1, ((((((y0).2).2).2).2).1, (false, ())))))))
                (
                none)))
            (
            cond (decide ((List.length (((((y0).2).2).2).1).1) = (List.length (((((y0).2).2).2).1).1)))
              (
              some ((y0).1, (((y0).2).1, ((((y0).2).2).1, (((((y0).2).2).2).1, ((((((y0).2).2).2).2).1, (false, ())))))))
              (
              none)))
          (
          cond (decide ((List.length (((((y0).2).2).2).1).1) = (List.length (((((y0).2).2).2).1).1)))
            (
            some ((y0).1, (((y0).2).1, ((((y0).2).2).1, (((((y0).2).2).2).1, ((((((y0).2).2).2).2).1, (false, ())))))))
            (
            none)))
        (
        cond (decide ((List.length (((((y0).2).2).2).1).1) = (List.length (((((y0).2).2).2).1).1)))
          (
          some ((y0).1, (((y0).2).1, ((((y0).2).2).1, (((((y0).2).2).2).1, ((((((y0).2).2).2).2).1, (false, ())))))))
          (
          none))) fun y1 =>
  cond ((((((y1).2).2).2).2).2).1
    (
    some ((([] : List Int), (false, ())), ((103 : Int), ())))
    (
    Option.bind (
        cond (decide ((y1).1 = (9 : Int)))
          (
          cond (decide ((List.length (((((y1).2).2).2).1).1) = (List.length (((((y1).2).2).2).1).1)))
            (
            some ((y1).1, (((y1).2).1, ((((y1).2).2).1, (((((y1).2).2).2).1, ((((((y1).2).2).2).2).1, ((2 : Int), ((1 : Int), ()))))))))
            (
            none))
          (
          cond (decide ((y1).1 = (10 : Int)))
            (
            cond (decide ((List.length (((((y1).2).2).2).1).1) = (List.length (((((y1).2).2).2).1).1)))
              (
              some ((y1).1, (((y1).2).1, ((((y1).2).2).1, (((((y1).2).2).2).1, ((((((y1).2).2).2).2).1, ((3 : Int), ((1 : Int), ()))))))))
              (
              none))
            (
            cond (decide ((y1).1 = (11 : Int)))
              (
              cond (decide ((List.length (((((y1).2).2).2).1).1) = (List.length (((((y1).2).2).2).1).1)))
                (
                some ((y1).1, (((y1).2).1, ((((y1).2).2).1, (((((y1).2).2).2).1, ((((((y1).2).2).2).2).1, ((1 : Int), ((1 : Int), ()))))))))
                (
                none))
              (
              cond (decide ((List.length (((((y1).2).2).2).1).1) = (List.length (((((y1).2).2).2).1).1)))
                (
                some ((y1).1, (((y1).2).1, ((((y1).2).2).1, (((((y1).2).2).2).1, ((((((y1).2).2).2).2).1, ((0 : Int), ((1 : Int), ()))))))))
                (
                none))))) fun y2 =>
    Option.bind (
        cond (((((y2).2).2).2).2).1
          (
          cond (decide ((List.length (((((y2).2).2).2).1).1) = (List.length (((((y2).2).2).2).1).1)))
            (
            some ((y2).1, (((y2).2).1, ((((y2).2).2).1, (((((y2).2).2).2).1, ((((((y2).2).2).2).2).1, (((((((y2).2).2).2).2).2).1, ((2 : Int), ()))))))))
            (
            none))
          (
          cond (decide ((List.length (((((y2).2).2).2).1).1) = (List.length (((((y2).2).2).2).1).1)))
            (
            some y2)
            (
            none))) fun y3 =>
    Option.bind (
        cond (decide (@Ne Int (Nat.cast (List.length ((y3).2).1) : Int) ((((((y3).2).2).2).2).2).1))
          (
          cond (decide ((List.length (((((y3).2).2).2).1).1) = (List.length (((((y3).2).2).2).1).1)))
            (
            some ((y3).1, (((y3).2).1, ((((y3).2).2).1, (((((y3).2).2).2).1, ((((((y3).2).2).2).2).1, (true, ())))))))
            (
            none))
          (
          cond (decide ((List.length (((((y3).2).2).2).1).1) = (List.length (((((y3).2).2).2).1).1)))
            (
            some ((y3).1, (((y3).2).1, ((((y3).2).2).1, (((((y3).2).2).2).1, ((((((y3).2).2).2).2).1, ((decide (@Ne Int (Nat.cast (List.length (((y3).2).2).1) : Int) (((((((y3).2).2).2).2).2).2).1)), ())))))))
            (
            none))) fun y4 =>
    cond ((((((y4).2).2).2).2).2).1
      (
      some ((([] : List Int), (false, ())), ((101 : Int), ())))
      (
      Option.bind (F_lodgeref3_descs N (((y4).2).2).1) fun y5 =>
      cond (decide (@Ne Int (y5).1 (0 : Int)))
        (
        some ((([] : List Int), (false, ())), y5))
        (
        cond (decide (0 < (List.length (((y4).2).2).1)))
          (
          Option.bind (
              cond (((((y4).2).2).2).2).1
                (
                cond (decide (1 < (List.length (((y4).2).2).1)))
                  (
                  Option.bind (F_lodgeref_SameDesc N (List.getD (((y4).2).2).1 0 (([] : List Int), false)) (List.getD (((y4).2).2).1 1 (([] : List Int), false))) fun y6 =>
                  cond (Bool.not (y6).1)
                    (
                    cond (decide ((List.length (((((y4).2).2).2).1).1) = (List.length (((((y4).2).2).2).1).1)))
                      (
                      some ((y4).1, (((y4).2).1, (((((y4).2).2).2).1, (((List.getD (((y4).2).2).1 0 (([] : List Int), false)), ()), (true, ()))))))
                      (
                      none))
                    (
                    cond (decide ((y4).1 = (10 : Int)))
                      (
                      cond (Bool.not ((List.getD (((y4).2).2).1 0 (([] : List Int), false))).2)
                        (
                        cond (decide ((List.length (((((y4).2).2).2).1).1) = (List.length (((((y4).2).2).2).1).1)))
                          (
                          some ((y4).1, (((y4).2).1, (((((y4).2).2).2).1, (((List.getD (((y4).2).2).1 0 (([] : List Int), false)), ()), (true, ()))))))
                          (
                          none))
                        (
                        cond (decide ((y4).1 = (11 : Int)))
                          (
                          cond (decide ((List.length (((((y4).2).2).2).1).1) = (List.length (((((y4).2).2).2).1).1)))
                            (
                            some ((y4).1, (((y4).2).1, (((((y4).2).2).2).1, (((List.getD (((y4).2).2).1 0 (([] : List Int), false)), ()), (((List.getD (((y4).2).2).1 0 (([] : List Int), false))).2, ()))))))
                            (
                            none))
                          (
                          cond (decide ((List.length (((((y4).2).2).2).1).1) = (List.length (((((y4).2).2).2).1).1)))
                            (
                            some ((y4).1, (((y4).2).1, (((((y4).2).2).2).1, (((List.getD (((y4).2).2).1 0 (([] : List Int), false)), ()), (false, ()))))))
                            (
                            none))))
                      (
                      cond (decide ((y4).1 = (11 : Int)))
                        (
                        cond (decide ((List.length (((((y4).2).2).2).1).1) = (List.length (((((y4).2).2).2).1).1)))
                          (
                          some ((y4).1, (((y4).2).1, (((((y4).2).2).2).1, (((List.getD (((y4).2).2).1 0 (([] : List Int), false)), ()), (((List.getD (((y4).2).2).1 0 (([] : List Int), false))).2, ()))))))
                          (
                          none))
                        (
                        cond (decide ((List.length (((((y4).2).2).2).1).1) = (List.length (((((y4).2).2).2).1).1)))
                          (
                          some ((y4).1, (((y4).2).1, (((((y4).2).2).2).1, (((List.getD (((y4).2).2).1 0 (([] : List Int), false)), ()), (false, ()))))))
                          (
                          none)))))
                  (
                  none))
                (
                cond (decide ((y4).1 = (10 : Int)))
                  (
                  cond (Bool.not ((List.getD (((y4).2).2).1 0 (([] : List Int), false))).2)
                    (
                    cond (decide ((List.length (((((y4).2).2).2).1).1) = (List.length (((((y4).2).2).2).1).1)))
                      (
                      some ((y4).1, (((y4).2).1, (((((y4).2).2).2).1, (((List.getD (((y4).2).2).1 0 (([] : List Int), false)), ()), (true, ()))))))
                      (
                      none))
                    (
                    cond (decide ((y4).1 = (11 : Int)))
                      (
                      cond (decide ((List.length (((((y4).2).2).2).1).1) = (List.length (((((y4).2).2).2).1).1)))
                        (
                        some ((y4).1, (((y4).2).1, (((((y4).2).2).2).1, (((List.getD (((y4).2).2).1 0 (([] : List Int), false)), ()), (((List.getD (((y4).2).2).1 0 (([] : List Int), false))).2, ()))))))
                        (
                        none))
                      (
                      cond (decide ((List.length (((((y4).2).2).2).1).1) = (List.length (((((y4).2).2).2).1).1)))
                        (
                        some ((y4).1, (((y4).2).1, (((((y4).2).2).2).1, (((List.getD (((y4).2).2).1 0 (([] : List Int), false)), ()), (false, ()))))))
                        (
                        none))))
                  (
                  cond (decide ((y4).1 = (11 : Int)))
                    (
                    cond (decide ((List.length (((((y4).2).2).2).1).1) = (List.length (((((y4).2).2).2).1).1)))
                      (
                      some ((y4).1, (((y4).2).1, (((((y4).2).2).2).1, (((List.getD (((y4).2).2).1 0 (([] : List Int), false)), ()), (((List.getD (((y4).2).2).1 0 (([] : List Int), false))).2, ()))))))
                      (
                      none))
                    (
                    cond (decide ((List.length (((((y4).2).2).2).1).1) = (List.length (((((y4).2).2).2).1).1)))
                      (
                      some ((y4).1, (((y4).2).1, (((((y4).2).2).2).1, (((List.getD (((y4).2).2).1 0 (([] : List Int), false)), ()), (false, ()))))))
                      (
                      none))))) fun y7 =>
          cond (((((y7).2).2).2).2).1
            (
            some ((([] : List Int), (false, ())), ((101 : Int), ())))
            (
            Option.bind (F_lodgeref_Desc N (((((y7).2).2).2).1).1) fun y8 =>
            cond (decide ((y7).1 = (9 : Int)))
              (
              Option.bind (
                  cond (decide (0 < (List.length ((y7).2).1)))
                    (
                    Option.bind (F_lodgeref3_in N (List.getD ((y7).2).1 0 (0 : Int)) ((((((y7).2).2).2).1).1).2) fun y9 =>
                    cond (Bool.not (y9).1)
                      (
                      cond (decide ((List.length ((((y7).2).2).1).1) = (List.length ((((y7).2).2).1).1)))
                        (
                        cond (decide ((List.length ((y8).1).1) = (List.length ((y8).1).1)))
                          (
                          some ((((y7).2).2).1, ((y8).1, (true, ()))))
                          (
                          none))
                        (
                        none))
                      (
                      cond (decide (1 < (List.length ((y7).2).1)))
                        (
                        Option.bind (F_lodgeref3_in N (List.getD ((y7).2).1 1 (0 : Int)) ((((((y7).2).2).2).1).1).2) fun y10 =>
                        cond (Bool.not (y10).1)
                          (
                          cond (decide ((List.length ((((y7).2).2).1).1) = (List.length ((((y7).2).2).1).1)))
                            (
                            cond (decide ((List.length ((y8).1).1) = (List.length ((y8).1).1)))
                              (
                              some ((((y7).2).2).1, ((y8).1, (true, ()))))
                              (
                              none))
                            (
                            none))
                          (
                          cond (decide (0 < (List.length ((y7).2).1)))
                            (
                            cond (decide (1 < (List.length ((y7).2).1)))
                              (
                              cond (decide ((List.length ((((y7).2).2).1).1) = (List.length ((((y7).2).2).1).1)))
                                (
                                cond (decide ((List.length ((y8).1).1) = (List.length ((y8).1).1)))
                                  (
                                  some ((((y7).2).2).1, ((y8).1, ((decide ((List.getD ((y7).2).1 1 (0 : Int)) < (List.getD ((y7).2).1 0 (0 : Int)))), ()))))
                                  (
                                  none))
                                (
                                none))
                              (
                              none))
                            (
                            none)))
                        (
                        none)))
                    (
                    none)) fun y11 =>
              cond (((y11).2).2).1
                (
                some ((([] : List Int), (false, ())), ((102 : Int), ())))
                (
                cond (decide ((List.length (((y11).2).1).1) = (List.length (((y11).2).1).1)))
                  (
                  some (((y11).2).1, ((0 : Int), ())))
                  (
                  none)))
              (
              cond (decide ((y7).1 = (10 : Int)))
                (
                Option.bind (
                    cond (decide (0 < (List.length ((y7).2).1)))
                      (
                      cond (decide ((List.getD ((y7).2).1 0 (0 : Int)) < (0 : Int)))
                        (
                        cond (decide ((List.length ((((y7).2).2).1).1) = (List.length ((((y7).2).2).1).1)))
                          (
                          cond (decide ((List.length ((y8).1).1) = (List.length ((y8).1).1)))
                            (
                            some ((((y7).2).2).1, ((y8).1, (true, ()))))
                            (
                            none))
                          (
                          none))
                        (
                        cond (decide (0 < (List.length ((y7).2).1)))
                          (
                          cond (decide ((2147483647 : Int) < (List.getD ((y7).2).1 0 (0 : Int))))
                            (
                            cond (decide ((List.length ((((y7).2).2).1).1) = (List.length ((((y7).2).2).1).1)))
                              (
                              cond (decide ((List.length ((y8).1).1) = (List.length ((y8).1).1)))
                                (
                                some ((((y7).2).2).1, ((y8).1, (true, ()))))
                                (
                                none))
                              (
                              none))
                            (
                            cond (decide (1 < (List.length ((y7).2).1)))
                              (
                              cond (decide ((List.getD ((y7).2).1 1 (0 : Int)) < (0 : Int)))
                                (
                                cond (decide ((List.length ((((y7).2).2).1).1) = (List.length ((((y7).2).2).1).1)))
                                  (
                                  cond (decide ((List.length ((y8).1).1) = (List.length ((y8).1).1)))
                                    (
                                    some ((((y7).2).2).1, ((y8).1, (true, ()))))
                                    (
                                    none))
                                  (
                                  none))
                                (
                                cond (decide (1 < (List.length ((y7).2).1)))
                                  (
                                  cond (decide ((62 : Int) < (List.getD ((y7).2).1 1 (0 : Int))))
                                    (
                                    cond (decide ((List.length ((((y7).2).2).1).1) = (List.length ((((y7).2).2).1).1)))
                                      (
                                      cond (decide ((List.length ((y8).1).1) = (List.length ((y8).1).1)))
                                        (
                                        some ((((y7).2).2).1, ((y8).1, (true, ()))))
                                        (
                                        none))
                                      (
                                      none))
                                    (
                                    cond (decide (2 < (List.length ((y7).2).1)))
                                      (
                                      Option.bind (F_lodgeref3_narrow N (List.getD ((y7).2).1 2 (0 : Int))) fun y12 =>
                                      cond (decide ((List.length ((((y7).2).2).1).1) = (List.length ((((y7).2).2).1).1)))
                                        (
                                        cond (decide ((List.length ((y8).1).1) = (List.length ((y8).1).1)))
                                          (
                                          some ((((y7).2).2).1, ((y8).1, ((Bool.not (y12).1), ()))))
                                          (
                                          none))
                                        (
                                        none))
                                      (
                                      none)))
                                  (
                                  none)))
                              (
                              none)))
                          (
                          none)))
                      (
                      none)) fun y13 =>
                cond (((y13).2).2).1
                  (
                  some ((([] : List Int), (false, ())), ((102 : Int), ())))
                  (
                  cond (decide ((List.length (((y13).2).1).1) = (List.length (((y13).2).1).1)))
                    (
                    some (((((y13).2).1).1, (false, ())), ((0 : Int), ())))
                    (
                    none)))
                (
                cond (decide ((y7).1 = (11 : Int)))
                  (
                  cond (decide (0 < (List.length ((y7).2).1)))
                    (
                    Option.bind (F_lodgeref3_narrow N (List.getD ((y7).2).1 0 (0 : Int))) fun y14 =>
                    cond (Bool.not (y14).1)
                      (
                      some ((([] : List Int), (false, ())), ((102 : Int), ())))
                      (
                      cond (decide ((List.length ((y8).1).1) = (List.length ((y8).1).1)))
                        (
                        some ((((y8).1).1, (true, ())), ((0 : Int), ())))
                        (
                        none)))
                    (
                    none))
                  (
                  cond (decide ((List.length ((y8).1).1) = (List.length ((y8).1).1)))
                    (
                    some ((y8).1, ((0 : Int), ())))
                    (
                    none))))))
          (
          none))))

abbrev c_lodgeref3_ElemResult (N : Nat) : CallSpec := ⟨12, ps_lodgeref3_ElemResult, rs_lodgeref3_ElemResult, fun x => F_lodgeref3_ElemResult N x.1 x.2.1 x.2.2.1⟩

theorem cs_lodgeref3_ElemResult_ok (S : Nat → Addr) (N : Nat) : CallsOK Go.Proofs.Tryd.prog E S (cs_lodgeref3_ElemResult N) :=
  .cons (F_lodgeref3_descs_ok S N) (.cons (F_lodgeref_SameDesc_ok S N) (.cons (F_lodgeref_Desc_ok S N) (.cons (F_lodgeref3_in_ok S N) (.cons (F_lodgeref3_narrow_ok S N) (.nil)))))
theorem F_lodgeref3_ElemResult_ok (S : Nat → Addr) (N : Nat) : ∀ x y, (c_lodgeref3_ElemResult N).g x = some y → FCon Go.Proofs.Tryd.prog E S 12 ps_lodgeref3_ElemResult rs_lodgeref3_ElemResult x y := by
  intro x y h
  exact fun_specJ E_ok mixed (cs_lodgeref3_ElemResult_ok S N) (f := 12) (fi := ⟨b_lodgeref3_ElemResult, 176, Go.Proofs.Tryd.f12.results.toList⟩) (by kernel_rfl) (ls := []) (.nil) (js := j_lodgeref3_ElemResult) (by kernel_rfl) (ps := ps_lodgeref3_ElemResult) (rs := rs_lodgeref3_ElemResult) (Eq.trans (b := F_lodgeref3_ElemResult N x.1 x.2.1 x.2.2.1) (by kernel_rfl) h)

/-! lodge/lodgeref.Bare -/

abbrev ps_lodgeref_Bare : List Ty := [(.int .i64)]
abbrev rs_lodgeref_Bare : List Slot := [.data (.st (.pair (.int .i64) (.pair .bool (.int .i64))))]
abbrev cs_lodgeref_Bare (N : Nat) : List CallSpec := []
noncomputable abbrev b_lodgeref_Bare : Code := (Go.Proofs.Tryd.f43.body).getD .skip

def F_lodgeref_Bare (N : Nat) (code_0 : Int) : Option ((Int × (Bool × Int)) × Unit) :=
  some ((code_0, (false, (0 : Int))), ())

abbrev c_lodgeref_Bare (N : Nat) : CallSpec := ⟨43, ps_lodgeref_Bare, rs_lodgeref_Bare, fun x => F_lodgeref_Bare N x.1⟩

theorem cs_lodgeref_Bare_ok (S : Nat → Addr) (N : Nat) : CallsOK Go.Proofs.Tryd.prog E S (cs_lodgeref_Bare N) :=
  .nil
theorem F_lodgeref_Bare_ok (S : Nat → Addr) (N : Nat) : ∀ x y, (c_lodgeref_Bare N).g x = some y → FCon Go.Proofs.Tryd.prog E S 43 ps_lodgeref_Bare rs_lodgeref_Bare x y := by
  intro x y h
  exact fun_spec E_ok mixed (cs_lodgeref_Bare_ok S N) (f := 43) (fi := ⟨b_lodgeref_Bare, 5, Go.Proofs.Tryd.f43.results.toList⟩) (by kernel_rfl) (ls := []) (.nil) (by kernel_rfl) (ps := ps_lodgeref_Bare) (rs := rs_lodgeref_Bare) (Eq.trans (b := F_lodgeref_Bare N x.1) (by kernel_rfl) h)

/-! lodge/lodgeref.None -/

abbrev ps_lodgeref_None : List Ty := []
abbrev rs_lodgeref_None : List Slot := [.data (.st (.pair (.int .i64) (.pair .bool (.int .i64))))]
abbrev cs_lodgeref_None (N : Nat) : List CallSpec := []
noncomputable abbrev b_lodgeref_None : Code := (Go.Proofs.Tryd.f50.body).getD .skip

def F_lodgeref_None (N : Nat)  : Option ((Int × (Bool × Int)) × Unit) :=
  some (((0 : Int), (false, (0 : Int))), ())

abbrev c_lodgeref_None (N : Nat) : CallSpec := ⟨50, ps_lodgeref_None, rs_lodgeref_None, fun x => F_lodgeref_None N ⟩

theorem cs_lodgeref_None_ok (S : Nat → Addr) (N : Nat) : CallsOK Go.Proofs.Tryd.prog E S (cs_lodgeref_None N) :=
  .nil
theorem F_lodgeref_None_ok (S : Nat → Addr) (N : Nat) : ∀ x y, (c_lodgeref_None N).g x = some y → FCon Go.Proofs.Tryd.prog E S 50 ps_lodgeref_None rs_lodgeref_None x y := by
  intro x y h
  exact fun_spec E_ok mixed (cs_lodgeref_None_ok S N) (f := 50) (fi := ⟨b_lodgeref_None, 2, Go.Proofs.Tryd.f50.results.toList⟩) (by kernel_rfl) (ls := []) (.nil) (by kernel_rfl) (ps := ps_lodgeref_None) (rs := rs_lodgeref_None) (Eq.trans (b := F_lodgeref_None N ) (by kernel_rfl) h)

/-! lodge/lodgesee.sentinels -/

abbrev ps_lodgesee_sentinels : List Ty := []
abbrev rs_lodgesee_sentinels : List Slot := [.sl .err]
abbrev cs_lodgesee_sentinels (N : Nat) : List CallSpec := []
noncomputable abbrev b_lodgesee_sentinels : Code := (Go.Proofs.Tryd.f81.body).getD .skip

def F_lodgesee_sentinels (N : Nat)  : Option (List Er × Unit) :=
  some (((Go.Eng.Er.s ErrShape) :: ((Go.Eng.Er.s ErrRange) :: ((Go.Eng.Er.s ErrKind) :: ((Go.Eng.Er.s ErrMany) :: ((Go.Eng.Er.s ErrEnd) :: ((Go.Eng.Er.s ErrRoom) :: ((Go.Eng.Er.s ErrNone) :: ((Go.Eng.Er.s ErrAlias) :: ((Go.Eng.Er.s ErrCost) :: ((Go.Eng.Er.s ErrJump) :: ((Go.Eng.Er.s ErrCycle) :: ((Go.Eng.Er.s ErrFuel) :: ((Go.Eng.Er.s ErrFull) :: ((Go.Eng.Er.s ErrQuota) :: ((Go.Eng.Er.s ErrCap) :: ((Go.Eng.Er.s ErrStale) :: ((Go.Eng.Er.s ErrTag) :: ((Go.Eng.Er.s ErrOld) :: ((Go.Eng.Er.s ErrTenant) :: ((Go.Eng.Er.s ErrWord) :: ((Go.Eng.Er.s ErrNumber) :: ([] : List Go.Eng.Er)))))))))))))))))))))), ())

abbrev c_lodgesee_sentinels (N : Nat) : CallSpec := ⟨81, ps_lodgesee_sentinels, rs_lodgesee_sentinels, fun x => F_lodgesee_sentinels N ⟩

theorem cs_lodgesee_sentinels_ok (S : Nat → Addr) (N : Nat) : CallsOK Go.Proofs.Tryd.prog E S (cs_lodgesee_sentinels N) :=
  .nil
theorem F_lodgesee_sentinels_ok (S : Nat → Addr) (N : Nat) : ∀ x y, (c_lodgesee_sentinels N).g x = some y → FCon Go.Proofs.Tryd.prog E S 81 ps_lodgesee_sentinels rs_lodgesee_sentinels x y := by
  intro x y h
  exact fun_spec E_ok mixed (cs_lodgesee_sentinels_ok S N) (f := 81) (fi := ⟨b_lodgesee_sentinels, 23, Go.Proofs.Tryd.f81.results.toList⟩) (by kernel_rfl) (ls := []) (.nil) (by kernel_rfl) (ps := ps_lodgesee_sentinels) (rs := rs_lodgesee_sentinels) (Eq.trans (b := F_lodgesee_sentinels N ) (by kernel_rfl) h)

/-! lodge/lodgesee.Alike -/

abbrev ps_lodgesee_Alike : List Ty := [.err, .err]
abbrev rs_lodgesee_Alike : List Slot := [.data .bool]
abbrev cs_lodgesee_Alike (N : Nat) : List CallSpec := []
noncomputable abbrev b_lodgesee_Alike : Code := (Go.Proofs.Tryd.f82.body).getD .skip

def F_lodgesee_Alike (N : Nat) (a_0 : Er) (b_1 : Er) : Option (Bool × Unit) :=
  cond (Go.Eng.Er.isNil a_0)
    (
    cond (Go.Eng.Er.isNil a_0)
      (
      some ((Go.Eng.Er.isNil b_1), ()))
      (
      some (false, ())))
    (
    cond (Go.Eng.Er.isNil b_1)
      (
      cond (Go.Eng.Er.isNil a_0)
        (
        some ((Go.Eng.Er.isNil b_1), ()))
        (
        some (false, ())))
      (
      cond (Go.Eng.okEq a_0 b_1)
        (
        some ((decide (a_0 = b_1)), ()))
        (
        none)))

abbrev c_lodgesee_Alike (N : Nat) : CallSpec := ⟨82, ps_lodgesee_Alike, rs_lodgesee_Alike, fun x => F_lodgesee_Alike N x.1 x.2.1⟩

theorem cs_lodgesee_Alike_ok (S : Nat → Addr) (N : Nat) : CallsOK Go.Proofs.Tryd.prog E S (cs_lodgesee_Alike N) :=
  .nil
theorem F_lodgesee_Alike_ok (S : Nat → Addr) (N : Nat) : ∀ x y, (c_lodgesee_Alike N).g x = some y → FCon Go.Proofs.Tryd.prog E S 82 ps_lodgesee_Alike rs_lodgesee_Alike x y := by
  intro x y h
  exact fun_spec E_ok mixed (cs_lodgesee_Alike_ok S N) (f := 82) (fi := ⟨b_lodgesee_Alike, 20, Go.Proofs.Tryd.f82.results.toList⟩) (by kernel_rfl) (ls := []) (.nil) (by kernel_rfl) (ps := ps_lodgesee_Alike) (rs := rs_lodgesee_Alike) (Eq.trans (b := F_lodgesee_Alike N x.1 x.2.1) (by kernel_rfl) h)

/-! lodge/lodgesee.sentinel -/

abbrev ps_lodgesee_sentinel : List Ty := [.err]
abbrev rs_lodgesee_sentinel : List Slot := [.data (.int .i64)]
abbrev cs_lodgesee_sentinel (N : Nat) : List CallSpec := [c_lodgesee_sentinels N, c_lodgesee_Alike N]
noncomputable abbrev b_lodgesee_sentinel : Code := (Go.Proofs.Tryd.f78.body).getD .skip

abbrev h_lodgesee_sentinel_0 : List Slot := [.data .err, .dead, .dead, .sl .err, .data (.int .i64), .dead, .dead, .dead, .dead, .dead, .dead, .dead, .dead, .dead, .dead, .dead, .dead, .dead, .dead, .dead]
abbrev e_lodgesee_sentinel_0 : List (AX × List Slot) := [(AX.exit 0, [.dead, .dead, .dead, .dead, .dead, .dead, .dead, .dead, .dead, .dead, .dead, .dead, .dead, .dead, .dead, .dead, .dead, .dead, .dead, .dead]), (AX.ret, [.dead, .dead, .data (.int .i64), .dead, .dead, .dead, .dead, .dead, .dead, .dead, .dead, .dead, .dead, .dead, .dead, .dead, .dead, .dead, .dead, .dead])]
def g_lodgesee_sentinel_0 (N : Nat) : Nat → Er → List Er → Int → Option (Sum Unit (Int × Unit))
  | 0, _, _, _ => none
  | n + 1, e_0, l_3, i_4 =>
    cond (decide (i_4 < (Nat.cast (List.length l_3) : Int)))
      (
      cond (decide ((0 : Int) ≤ i_4))
        (
        cond (decide ((Int.toNat i_4) < (List.length l_3)))
          (
          cond (decide (((0 : Nat) + (Int.toNat i_4)) < (List.length l_3)))
            (
            Option.bind (F_lodgesee_Alike N e_0 (List.getD l_3 ((0 : Nat) + (Int.toNat i_4)) Go.Eng.Er.nil)) fun y2 =>
            cond (y2).1
              (
              some (Sum.inr ((wi64 ((101 : Int) + i_4)), ())))
              (
              cond (decide ((List.length l_3) = (List.length l_3)))
                (
                (g_lodgesee_sentinel_0 N n e_0 l_3 (wi64 (i_4 + (1 : Int)))))
                (
                none)))
            (
            none))
          (
          none))
        (
        none))
      (
      some (Sum.inl ()))

def F_lodgesee_sentinel (N : Nat) (e_0 : Er) : Option (Int × Unit) :=
  Option.bind (F_lodgesee_sentinels N) fun y0 =>
  cond (decide ((List.length (y0).1) = (List.length (y0).1)))
    (
    Option.bind (g_lodgesee_sentinel_0 N N e_0 (y0).1 (0 : Int)) fun y1 =>
    Sum.elim (fun y2 =>
      some ((-(1 : Int)), ()))
      (fun y3 =>
      some y3) y1)
    (
    none)

abbrev c_lodgesee_sentinel (N : Nat) : CallSpec := ⟨78, ps_lodgesee_sentinel, rs_lodgesee_sentinel, fun x => F_lodgesee_sentinel N x.1⟩
abbrev l_lodgesee_sentinel_0 (N : Nat) : LoopSpec := ⟨0, h_lodgesee_sentinel_0, e_lodgesee_sentinel_0, fun x => g_lodgesee_sentinel_0 N N x.1 x.2.1 x.2.2.1⟩

theorem cs_lodgesee_sentinel_ok (S : Nat → Addr) (N : Nat) : CallsOK Go.Proofs.Tryd.prog E S (cs_lodgesee_sentinel N) :=
  .cons (F_lodgesee_sentinels_ok S N) (.cons (F_lodgesee_Alike_ok S N) (.nil))
noncomputable abbrev b_lodgesee_sentinel_0 : Code := (loopsOf b_lodgesee_sentinel).getD 0 .skip
theorem g_lodgesee_sentinel_0_ok (S : Nat → Addr) (N : Nat) : ∀ n x y, (fun (x : Val (slotsTy h_lodgesee_sentinel_0)) => g_lodgesee_sentinel_0 N n x.1 x.2.1 x.2.2.1) x = some y → LoopCon Go.Proofs.Tryd.prog E S b_lodgesee_sentinel_0 (encSlots h_lodgesee_sentinel_0 x) (encEx e_lodgesee_sentinel_0 y).1 (encEx e_lodgesee_sentinel_0 y).2 :=
  loop_spec E_ok mixed (cs_lodgesee_sentinel_ok S N) (all := loopsOf b_lodgesee_sentinel) (ls := []) (.nil) (i := 0) (by kernel_rfl) (inner_of (by kernel_rfl)) (head := h_lodgesee_sentinel_0) (ex := e_lodgesee_sentinel_0) (fun n (x : Val (slotsTy h_lodgesee_sentinel_0)) => g_lodgesee_sentinel_0 N n x.1 x.2.1 x.2.2.1) (fun _ => rfl) (fun n x => by kernel_rfl)
theorem F_lodgesee_sentinel_ok (S : Nat → Addr) (N : Nat) : ∀ x y, (c_lodgesee_sentinel N).g x = some y → FCon Go.Proofs.Tryd.prog E S 78 ps_lodgesee_sentinel rs_lodgesee_sentinel x y := by
  intro x y h
  exact fun_spec E_ok mixed (cs_lodgesee_sentinel_ok S N) (f := 78) (fi := ⟨b_lodgesee_sentinel, 20, Go.Proofs.Tryd.f78.results.toList⟩) (by kernel_rfl) (ls := [l_lodgesee_sentinel_0 N]) (.cons (by kernel_rfl) (g_lodgesee_sentinel_0_ok S N N) (.nil)) (by kernel_rfl) (ps := ps_lodgesee_sentinel) (rs := rs_lodgesee_sentinel) (Eq.trans (b := F_lodgesee_sentinel N x.1) (by kernel_rfl) h)

/-! lodge/lodgeref.Placed -/

abbrev ps_lodgeref_Placed : List Ty := [(.int .i64), (.int .i64)]
abbrev rs_lodgeref_Placed : List Slot := [.data (.st (.pair (.int .i64) (.pair .bool (.int .i64))))]
abbrev cs_lodgeref_Placed (N : Nat) : List CallSpec := [c_lodgeref_None N]
noncomputable abbrev b_lodgeref_Placed : Code := (Go.Proofs.Tryd.f53.body).getD .skip

def F_lodgeref_Placed (N : Nat) (code_0 : Int) (pos_1 : Int) : Option ((Int × (Bool × Int)) × Unit) :=
  cond (decide (code_0 = (0 : Int)))
    (
    Option.bind (F_lodgeref_None N) fun y0 =>
    some y0)
    (
    some ((code_0, (true, pos_1)), ()))

abbrev c_lodgeref_Placed (N : Nat) : CallSpec := ⟨53, ps_lodgeref_Placed, rs_lodgeref_Placed, fun x => F_lodgeref_Placed N x.1 x.2.1⟩

theorem cs_lodgeref_Placed_ok (S : Nat → Addr) (N : Nat) : CallsOK Go.Proofs.Tryd.prog E S (cs_lodgeref_Placed N) :=
  .cons (F_lodgeref_None_ok S N) (.nil)
theorem F_lodgeref_Placed_ok (S : Nat → Addr) (N : Nat) : ∀ x y, (c_lodgeref_Placed N).g x = some y → FCon Go.Proofs.Tryd.prog E S 53 ps_lodgeref_Placed rs_lodgeref_Placed x y := by
  intro x y h
  exact fun_spec E_ok mixed (cs_lodgeref_Placed_ok S N) (f := 53) (fi := ⟨b_lodgeref_Placed, 11, Go.Proofs.Tryd.f53.results.toList⟩) (by kernel_rfl) (ls := []) (.nil) (by kernel_rfl) (ps := ps_lodgeref_Placed) (rs := rs_lodgeref_Placed) (Eq.trans (b := F_lodgeref_Placed N x.1 x.2.1) (by kernel_rfl) h)

/-! lodge/lodgesee.Fault -/

abbrev ps_lodgesee_Fault : List Ty := [.err]
abbrev rs_lodgesee_Fault : List Slot := [.data (.st (.pair (.int .i64) (.pair .bool (.int .i64))))]
abbrev cs_lodgesee_Fault (N : Nat) : List CallSpec := [c_lodgeref_Bare N, c_lodgeref_None N, c_lodgesee_sentinel N, c_lodgeref_Placed N]
noncomputable abbrev b_lodgesee_Fault : Code := (Go.Proofs.Tryd.f55.body).getD .skip

def F_lodgesee_Fault (N : Nat) (e_0 : Er) : Option ((Int × (Bool × Int)) × Unit) :=
  cond (Go.Eng.Er.isNil e_0)
    (
    Option.bind (F_lodgeref_None N) fun y0 =>
    some y0)
    (
    cond (Go.Eng.Er.isAt e_0)
      (
      Option.bind (F_lodgesee_sentinel N (Go.Eng.Er.s (Go.Eng.Er.gix e_0))) fun y1 =>
      Option.bind (F_lodgeref_Placed N (y1).1 (Go.Eng.Er.pos e_0)) fun y2 =>
      some y2)
      (
      Option.bind (F_lodgesee_sentinel N e_0) fun y3 =>
      Option.bind (F_lodgeref_Bare N (y3).1) fun y4 =>
      some y4))

abbrev c_lodgesee_Fault (N : Nat) : CallSpec := ⟨55, ps_lodgesee_Fault, rs_lodgesee_Fault, fun x => F_lodgesee_Fault N x.1⟩

theorem cs_lodgesee_Fault_ok (S : Nat → Addr) (N : Nat) : CallsOK Go.Proofs.Tryd.prog E S (cs_lodgesee_Fault N) :=
  .cons (F_lodgeref_Bare_ok S N) (.cons (F_lodgeref_None_ok S N) (.cons (F_lodgesee_sentinel_ok S N) (.cons (F_lodgeref_Placed_ok S N) (.nil))))
theorem F_lodgesee_Fault_ok (S : Nat → Addr) (N : Nat) : ∀ x y, (c_lodgesee_Fault N).g x = some y → FCon Go.Proofs.Tryd.prog E S 55 ps_lodgesee_Fault rs_lodgesee_Fault x y := by
  intro x y h
  exact fun_spec E_ok mixed (cs_lodgesee_Fault_ok S N) (f := 55) (fi := ⟨b_lodgesee_Fault, 38, Go.Proofs.Tryd.f55.results.toList⟩) (by kernel_rfl) (ls := []) (.nil) (by kernel_rfl) (ps := ps_lodgesee_Fault) (rs := rs_lodgesee_Fault) (Eq.trans (b := F_lodgesee_Fault N x.1) (by kernel_rfl) h)

/-! lodge/lodgeref.SameFault -/

abbrev ps_lodgeref_SameFault : List Ty := [(.st (.pair (.int .i64) (.pair .bool (.int .i64)))), (.st (.pair (.int .i64) (.pair .bool (.int .i64))))]
abbrev rs_lodgeref_SameFault : List Slot := [.data .bool]
abbrev cs_lodgeref_SameFault (N : Nat) : List CallSpec := []
noncomputable abbrev b_lodgeref_SameFault : Code := (Go.Proofs.Tryd.f54.body).getD .skip

def F_lodgeref_SameFault (N : Nat) (a_0 : (Int × (Bool × Int))) (b_1 : (Int × (Bool × Int))) : Option (Bool × Unit) :=
  cond (decide ((a_0).1 = (b_1).1))
    (
    cond (((a_0).2).1 == ((b_1).2).1)
      (
      some ((decide (((a_0).2).2 = ((b_1).2).2)), ()))
      (
      some (false, ())))
    (
    some (false, ()))

abbrev c_lodgeref_SameFault (N : Nat) : CallSpec := ⟨54, ps_lodgeref_SameFault, rs_lodgeref_SameFault, fun x => F_lodgeref_SameFault N x.1 x.2.1⟩

theorem cs_lodgeref_SameFault_ok (S : Nat → Addr) (N : Nat) : CallsOK Go.Proofs.Tryd.prog E S (cs_lodgeref_SameFault N) :=
  .nil
theorem F_lodgeref_SameFault_ok (S : Nat → Addr) (N : Nat) : ∀ x y, (c_lodgeref_SameFault N).g x = some y → FCon Go.Proofs.Tryd.prog E S 54 ps_lodgeref_SameFault rs_lodgeref_SameFault x y := by
  intro x y h
  exact fun_spec E_ok mixed (cs_lodgeref_SameFault_ok S N) (f := 54) (fi := ⟨b_lodgeref_SameFault, 24, Go.Proofs.Tryd.f54.results.toList⟩) (by kernel_rfl) (ls := []) (.nil) (by kernel_rfl) (ps := ps_lodgeref_SameFault) (rs := rs_lodgeref_SameFault) (Eq.trans (b := F_lodgeref_SameFault N x.1 x.2.1) (by kernel_rfl) h)

/-! lodge/lodgesee.Same -/

abbrev ps_lodgesee_Same : List Ty := [.err, (.st (.pair (.int .i64) (.pair .bool (.int .i64))))]
abbrev rs_lodgesee_Same : List Slot := [.data .bool]
abbrev cs_lodgesee_Same (N : Nat) : List CallSpec := [c_lodgesee_Fault N, c_lodgeref_SameFault N]
noncomputable abbrev b_lodgesee_Same : Code := (Go.Proofs.Tryd.f24.body).getD .skip

def F_lodgesee_Same (N : Nat) (e_0 : Er) (f_1 : (Int × (Bool × Int))) : Option (Bool × Unit) :=
  Option.bind (F_lodgesee_Fault N e_0) fun y0 =>
  Option.bind (F_lodgeref_SameFault N (y0).1 f_1) fun y1 =>
  some y1

abbrev c_lodgesee_Same (N : Nat) : CallSpec := ⟨24, ps_lodgesee_Same, rs_lodgesee_Same, fun x => F_lodgesee_Same N x.1 x.2.1⟩

theorem cs_lodgesee_Same_ok (S : Nat → Addr) (N : Nat) : CallsOK Go.Proofs.Tryd.prog E S (cs_lodgesee_Same N) :=
  .cons (F_lodgesee_Fault_ok S N) (.cons (F_lodgeref_SameFault_ok S N) (.nil))
theorem F_lodgesee_Same_ok (S : Nat → Addr) (N : Nat) : ∀ x y, (c_lodgesee_Same N).g x = some y → FCon Go.Proofs.Tryd.prog E S 24 ps_lodgesee_Same rs_lodgesee_Same x y := by
  intro x y h
  exact fun_spec E_ok mixed (cs_lodgesee_Same_ok S N) (f := 24) (fi := ⟨b_lodgesee_Same, 9, Go.Proofs.Tryd.f24.results.toList⟩) (by kernel_rfl) (ls := []) (.nil) (by kernel_rfl) (ps := ps_lodgesee_Same) (rs := rs_lodgesee_Same) (Eq.trans (b := F_lodgesee_Same N x.1 x.2.1) (by kernel_rfl) h)

/-! lodge/lodgesee.Is -/

abbrev ps_lodgesee_Is : List Ty := [.err, (.int .i64)]
abbrev rs_lodgesee_Is : List Slot := [.data .bool]
abbrev cs_lodgesee_Is (N : Nat) : List CallSpec := [c_lodgeref_Bare N, c_lodgesee_Same N]
noncomputable abbrev b_lodgesee_Is : Code := (Go.Proofs.Tryd.f13.body).getD .skip

def F_lodgesee_Is (N : Nat) (e_0 : Er) (code_1 : Int) : Option (Bool × Unit) :=
  Option.bind (F_lodgeref_Bare N code_1) fun y0 =>
  Option.bind (F_lodgesee_Same N e_0 (y0).1) fun y1 =>
  some y1

abbrev c_lodgesee_Is (N : Nat) : CallSpec := ⟨13, ps_lodgesee_Is, rs_lodgesee_Is, fun x => F_lodgesee_Is N x.1 x.2.1⟩

theorem cs_lodgesee_Is_ok (S : Nat → Addr) (N : Nat) : CallsOK Go.Proofs.Tryd.prog E S (cs_lodgesee_Is N) :=
  .cons (F_lodgeref_Bare_ok S N) (.cons (F_lodgesee_Same_ok S N) (.nil))
theorem F_lodgesee_Is_ok (S : Nat → Addr) (N : Nat) : ∀ x y, (c_lodgesee_Is N).g x = some y → FCon Go.Proofs.Tryd.prog E S 13 ps_lodgesee_Is rs_lodgesee_Is x y := by
  intro x y h
  exact fun_spec E_ok mixed (cs_lodgesee_Is_ok S N) (f := 13) (fi := ⟨b_lodgesee_Is, 9, Go.Proofs.Tryd.f13.results.toList⟩) (by kernel_rfl) (ls := []) (.nil) (by kernel_rfl) (ps := ps_lodgesee_Is) (rs := rs_lodgesee_Is) (Eq.trans (b := F_lodgesee_Is N x.1 x.2.1) (by kernel_rfl) h)

/-! lodge/lodgelaw7.ElemResults -/

abbrev ps_lodgelaw7_ElemResults : List Ty := [(.int .i64), (.sl (.int .i64)), (.sl (.st (.pair (.sl (.int .i64)) .bool)))]
abbrev rs_lodgelaw7_ElemResults : List Slot := [.data .bool]
abbrev cs_lodgelaw7_ElemResults (N : Nat) : List CallSpec := [c_elem_Result N, c_lodgelaw7_first N, c_lodgeworld_Desc N, c_lodgeref_SameDesc N, c_lodgeref3_ElemResult N, c_lodgesee_Is N]
noncomputable abbrev b_lodgelaw7_ElemResults : Code := (Go.Proofs.Tryd.f3.body).getD .skip

abbrev h_lodgelaw7_ElemResults_0 : List Slot := [.data (.int .i64), .data (.sl (.int .i64)), .data (.sl (.st (.pair (.sl (.int .i64)) .bool))), .dead, .dead, .dead, .dead, .dead, .data (.int .i64), .dead, .dead, .dead, .dead, .dead, .dead, .dead, .dead, .dead, .dead, .dead, .dead, .dead, .dead, .dead, .dead, .dead, .dead, .dead, .dead, .dead, .dead, .dead, .dead, .dead, .dead, .dead, .dead, .dead, .dead, .dead, .dead, .dead, .dead, .dead, .dead, .dead, .dead, .dead, .dead, .dead, .dead, .dead, .dead, .dead, .dead, .dead, .dead, .dead, .dead, .dead, .dead, .dead, .dead]
abbrev e_lodgelaw7_ElemResults_0 : List (AX × List Slot) := [(AX.exit 0, [.data (.int .i64), .data (.sl (.int .i64)), .data (.sl (.st (.pair (.sl (.int .i64)) .bool))), .dead, .dead, .dead, .dead, .dead, .dead, .dead, .dead, .dead, .dead, .dead, .dead, .dead, .dead, .dead, .dead, .dead, .dead, .dead, .dead, .dead, .dead, .dead, .dead, .dead, .dead, .dead, .dead, .dead, .dead, .dead, .dead, .dead, .dead, .dead, .dead, .dead, .dead, .dead, .dead, .dead, .dead, .dead, .dead, .dead, .dead, .dead, .dead, .dead, .dead, .dead, .dead, .dead, .dead, .dead, .dead, .dead, .dead, .dead, .dead]), (AX.ret, [.dead, .dead, .dead, .dead, .dead, .dead, .data .bool, .dead, .dead, .dead, .dead, .dead, .dead, .dead, .dead, .dead, .dead, .dead, .dead, .dead, .dead, .dead, .dead, .dead, .dead, .dead, .dead, .dead, .dead, .dead, .dead, .dead, .dead, .dead, .dead, .dead, .dead, .dead, .dead, .dead, .dead, .dead, .dead, .dead, .dead, .dead, .dead, .dead, .dead, .dead, .dead, .dead, .dead, .dead, .dead, .dead, .dead, .dead, .dead, .dead, .dead, .dead, .dead])]
def g_lodgelaw7_ElemResults_0 (N : Nat) : Nat → Int → List Int → List ((List Int × Bool)) → Int → Option (Sum (Int × (List Int × (List ((List Int × Bool)) × Unit))) (Bool × Unit))
  | 0, _, _, _, _ => none
  | n + 1, op_0, args_1, ins_2, i_8 =>
    cond (decide (i_8 < (Nat.cast (List.length ins_2) : Int)))
      (
      cond (decide ((0 : Int) ≤ i_8))
        (
        cond (decide ((Int.toNat i_8) < (List.length ins_2)))
          (
          Option.bind (F_lodgeworld_Desc N (List.getD ins_2 (Int.toNat i_8) (([] : List Int), false))) fun y2 =>
          cond (Bool.not (y2).1)
            (
            some (Sum.inr (true, ())))
            (
            (g_lodgelaw7_ElemResults_0 N n op_0 args_1 ins_2 (wi64 (i_8 + (1 : Int))))))
          (
          none))
        (
        none))
      (
      some (Sum.inl (op_0, (args_1, (ins_2, ())))))

def F_lodgelaw7_ElemResults (N : Nat) (op_0 : Int) (args_1 : List Int) (ins_2 : List ((List Int × Bool))) : Option (Bool × Unit) :=
  Option.bind (F_lodgelaw7_first N) fun y0 =>
  cond (Bool.not (y0).1)
    (
    some (false, ()))
    (
    cond (decide ((10 : Int) < (Nat.cast (List.length args_1) : Int)))
      (
      some y0)
      (
      cond (decide ((3 : Int) < (Nat.cast (List.length ins_2) : Int)))
        (
        some y0)
        (
        cond (Bool.not (y0).1)
          (
          some y0)
          (
          Option.bind (g_lodgelaw7_ElemResults_0 N N op_0 args_1 ins_2 (0 : Int)) fun y1 =>
          Sum.elim (fun y2 =>
            Option.bind (F_elem_Result N (y2).1 ((y2).2).1 (((y2).2).2).1) fun y3 =>
            Option.bind (F_lodgeref3_ElemResult N (y2).1 ((y2).2).1 (((y2).2).2).1) fun y4 =>
            Option.bind (F_lodgesee_Is N ((y3).2).1 ((y4).2).1) fun y5 =>
            cond (y5).1
              (
              cond (decide (((0 : Nat) + (List.length ((y3).1).1)) ≤ (List.length ((y3).1).1)))
                (
                cond (decide (((0 : Nat) + (List.length ((y4).1).1)) ≤ (List.length ((y4).1).1)))
                  (
                  Option.bind (F_lodgeref_SameDesc N ((List.take (List.length ((y3).1).1) ((y3).1).1), (((y3).1).2).1) ((List.take (List.length ((y4).1).1) ((y4).1).1), (((y4).1).2).1)) fun y6 =>
                  some y6)
                  (
                  none))
                (
                none))
              (
              some (false, ())))
            (fun y7 =>
            some y7) y1))))

abbrev c_lodgelaw7_ElemResults (N : Nat) : CallSpec := ⟨3, ps_lodgelaw7_ElemResults, rs_lodgelaw7_ElemResults, fun x => F_lodgelaw7_ElemResults N x.1 x.2.1 x.2.2.1⟩
abbrev l_lodgelaw7_ElemResults_0 (N : Nat) : LoopSpec := ⟨0, h_lodgelaw7_ElemResults_0, e_lodgelaw7_ElemResults_0, fun x => g_lodgelaw7_ElemResults_0 N N x.1 x.2.1 x.2.2.1 x.2.2.2.1⟩

theorem cs_lodgelaw7_ElemResults_ok (S : Nat → Addr) (N : Nat) : CallsOK Go.Proofs.Tryd.prog E S (cs_lodgelaw7_ElemResults N) :=
  .cons (F_elem_Result_ok S N) (.cons (F_lodgelaw7_first_ok S N) (.cons (F_lodgeworld_Desc_ok S N) (.cons (F_lodgeref_SameDesc_ok S N) (.cons (F_lodgeref3_ElemResult_ok S N) (.cons (F_lodgesee_Is_ok S N) (.nil))))))
noncomputable abbrev b_lodgelaw7_ElemResults_0 : Code := (loopsOf b_lodgelaw7_ElemResults).getD 0 .skip
theorem g_lodgelaw7_ElemResults_0_ok (S : Nat → Addr) (N : Nat) : ∀ n x y, (fun (x : Val (slotsTy h_lodgelaw7_ElemResults_0)) => g_lodgelaw7_ElemResults_0 N n x.1 x.2.1 x.2.2.1 x.2.2.2.1) x = some y → LoopCon Go.Proofs.Tryd.prog E S b_lodgelaw7_ElemResults_0 (encSlots h_lodgelaw7_ElemResults_0 x) (encEx e_lodgelaw7_ElemResults_0 y).1 (encEx e_lodgelaw7_ElemResults_0 y).2 :=
  loop_spec E_ok mixed (cs_lodgelaw7_ElemResults_ok S N) (all := loopsOf b_lodgelaw7_ElemResults) (ls := []) (.nil) (i := 0) (by kernel_rfl) (inner_of (by kernel_rfl)) (head := h_lodgelaw7_ElemResults_0) (ex := e_lodgelaw7_ElemResults_0) (fun n (x : Val (slotsTy h_lodgelaw7_ElemResults_0)) => g_lodgelaw7_ElemResults_0 N n x.1 x.2.1 x.2.2.1 x.2.2.2.1) (fun _ => rfl) (fun n x => by kernel_rfl)
theorem F_lodgelaw7_ElemResults_ok (S : Nat → Addr) (N : Nat) : ∀ x y, (c_lodgelaw7_ElemResults N).g x = some y → FCon Go.Proofs.Tryd.prog E S 3 ps_lodgelaw7_ElemResults rs_lodgelaw7_ElemResults x y := by
  intro x y h
  exact fun_spec E_ok mixed (cs_lodgelaw7_ElemResults_ok S N) (f := 3) (fi := ⟨b_lodgelaw7_ElemResults, 63, Go.Proofs.Tryd.f3.results.toList⟩) (by kernel_rfl) (ls := [l_lodgelaw7_ElemResults_0 N]) (.cons (by kernel_rfl) (g_lodgelaw7_ElemResults_0_ok S N N) (.nil)) (by kernel_rfl) (ps := ps_lodgelaw7_ElemResults) (rs := rs_lodgelaw7_ElemResults) (Eq.trans (b := F_lodgelaw7_ElemResults N x.1 x.2.1 x.2.2.1) (by kernel_rfl) h)

/-! lodge/lodgeworld.Tensor -/

abbrev ps_lodgeworld_Tensor : List Ty := [(.st (.pair (.st (.pair (.sl (.int .i64)) .bool)) (.sl (.int .i64)))), (.int .i64)]
abbrev rs_lodgeworld_Tensor : List Slot := [.data .bool]
abbrev cs_lodgeworld_Tensor (N : Nat) : List CallSpec := [c_lodgeworld_Desc N]
noncomputable abbrev b_lodgeworld_Tensor : Code := (Go.Proofs.Tryd.f19.body).getD .skip

def F_lodgeworld_Tensor (N : Nat) (t_0 : ((List Int × Bool) × List Int)) (most_1 : Int) : Option (Bool × Unit) :=
  Option.bind (F_lodgeworld_Desc N (t_0).1) fun y0 =>
  cond (y0).1
    (
    some ((decide ((Nat.cast (List.length (t_0).2) : Int) ≤ most_1)), ()))
    (
    some (false, ()))

abbrev c_lodgeworld_Tensor (N : Nat) : CallSpec := ⟨19, ps_lodgeworld_Tensor, rs_lodgeworld_Tensor, fun x => F_lodgeworld_Tensor N x.1 x.2.1⟩

theorem cs_lodgeworld_Tensor_ok (S : Nat → Addr) (N : Nat) : CallsOK Go.Proofs.Tryd.prog E S (cs_lodgeworld_Tensor N) :=
  .cons (F_lodgeworld_Desc_ok S N) (.nil)
theorem F_lodgeworld_Tensor_ok (S : Nat → Addr) (N : Nat) : ∀ x y, (c_lodgeworld_Tensor N).g x = some y → FCon Go.Proofs.Tryd.prog E S 19 ps_lodgeworld_Tensor rs_lodgeworld_Tensor x y := by
  intro x y h
  exact fun_spec E_ok mixed (cs_lodgeworld_Tensor_ok S N) (f := 19) (fi := ⟨b_lodgeworld_Tensor, 15, Go.Proofs.Tryd.f19.results.toList⟩) (by kernel_rfl) (ls := []) (.nil) (by kernel_rfl) (ps := ps_lodgeworld_Tensor) (rs := rs_lodgeworld_Tensor) (Eq.trans (b := F_lodgeworld_Tensor N x.1 x.2.1) (by kernel_rfl) h)

/-! lodge/elem.One -/

abbrev ps_elem_One : List Ty := [(.int .i64), (.st (.pair (.st (.pair (.sl (.int .i64)) .bool)) (.sl (.int .i64)))), (.sl (.int .i64))]
abbrev rs_elem_One : List Slot := [.ag [.sl (.int .i64), .d .bool, .sl (.int .i64)], .data .err]
abbrev cs_elem_One (N : Nat) : List CallSpec := [c_elem_apply N]
noncomputable abbrev b_elem_One : Code := (Go.Proofs.Tryd.f21.body).getD .skip

def F_elem_One (N : Nat) (op_0 : Int) (a_1 : ((List Int × Bool) × List Int)) (args_2 : List Int) : Option ((List Int × (Bool × (List Int × Unit))) × (Er × Unit)) :=
  Option.bind (F_elem_apply N op_0 args_2 (a_1 :: ([] : List (((List Int) × Bool) × (List Int))))) fun y0 =>
  cond (decide ((List.length ((y0).1).1) = (List.length ((y0).1).1)))
    (
    cond (decide ((List.length ((((y0).1).2).2).1) = (List.length ((((y0).1).2).2).1)))
      (
      some y0)
      (
      none))
    (
    none)

abbrev c_elem_One (N : Nat) : CallSpec := ⟨21, ps_elem_One, rs_elem_One, fun x => F_elem_One N x.1 x.2.1 x.2.2.1⟩

theorem cs_elem_One_ok (S : Nat → Addr) (N : Nat) : CallsOK Go.Proofs.Tryd.prog E S (cs_elem_One N) :=
  .cons (F_elem_apply_ok S N) (.nil)
theorem F_elem_One_ok (S : Nat → Addr) (N : Nat) : ∀ x y, (c_elem_One N).g x = some y → FCon Go.Proofs.Tryd.prog E S 21 ps_elem_One rs_elem_One x y := by
  intro x y h
  exact fun_spec E_ok mixed (cs_elem_One_ok S N) (f := 21) (fi := ⟨b_elem_One, 15, Go.Proofs.Tryd.f21.results.toList⟩) (by kernel_rfl) (ls := []) (.nil) (by kernel_rfl) (ps := ps_elem_One) (rs := rs_elem_One) (Eq.trans (b := F_elem_One N x.1 x.2.1 x.2.2.1) (by kernel_rfl) h)

/-! lodge/lodgeref3.Elems -/

abbrev ps_lodgeref3_Elems : List Ty := [(.sl (.int .i64))]
abbrev rs_lodgeref3_Elems : List Slot := [.data (.int .i64)]
abbrev cs_lodgeref3_Elems (N : Nat) : List CallSpec := [c_lodgeref3_ValidDesc N]
noncomputable abbrev b_lodgeref3_Elems : Code := (Go.Proofs.Tryd.f52.body).getD .skip

abbrev h_lodgeref3_Elems_0 : List Slot := [.data (.sl (.int .i64)), .dead, .dead, .data (.int .i64), .data (.int .i64), .dead, .dead, .dead, .dead, .dead, .dead, .dead, .dead, .dead, .dead, .dead, .dead, .dead, .dead, .dead, .dead, .dead]
abbrev e_lodgeref3_Elems_0 : List (AX × List Slot) := [(AX.exit 0, [.dead, .dead, .dead, .data (.int .i64), .dead, .dead, .dead, .dead, .dead, .dead, .dead, .dead, .dead, .dead, .dead, .dead, .dead, .dead, .dead, .dead, .dead, .dead])]
def g_lodgeref3_Elems_0 (N : Nat) : Nat → List Int → Int → Int → Option (Int × Unit)
  | 0, _, _, _ => none
  | n + 1, shape_0, n_3, i_4 =>
    cond (decide (i_4 < (Nat.cast (List.length shape_0) : Int)))
      (
      cond (decide ((0 : Int) ≤ i_4))
        (
        cond (decide ((Int.toNat i_4) < (List.length shape_0)))
          (
          (g_lodgeref3_Elems_0 N n shape_0 (wi64 (n_3 * (List.getD shape_0 (Int.toNat i_4) (0 : Int)))) (wi64 (i_4 + (1 : Int)))))
          (
          none))
        (
        none))
      (
      some (n_3, ()))

def F_lodgeref3_Elems (N : Nat) (shape_0 : List Int) : Option (Int × Unit) :=
  Option.bind (F_lodgeref3_ValidDesc N (shape_0, false)) fun y0 =>
  cond (decide (@Ne Int (y0).1 (0 : Int)))
    (
    some ((0 : Int), ()))
    (
    Option.bind (g_lodgeref3_Elems_0 N N shape_0 (1 : Int) (0 : Int)) fun y1 =>
    some y1)

abbrev c_lodgeref3_Elems (N : Nat) : CallSpec := ⟨52, ps_lodgeref3_Elems, rs_lodgeref3_Elems, fun x => F_lodgeref3_Elems N x.1⟩
abbrev l_lodgeref3_Elems_0 (N : Nat) : LoopSpec := ⟨0, h_lodgeref3_Elems_0, e_lodgeref3_Elems_0, fun x => g_lodgeref3_Elems_0 N N x.1 x.2.1 x.2.2.1⟩

theorem cs_lodgeref3_Elems_ok (S : Nat → Addr) (N : Nat) : CallsOK Go.Proofs.Tryd.prog E S (cs_lodgeref3_Elems N) :=
  .cons (F_lodgeref3_ValidDesc_ok S N) (.nil)
noncomputable abbrev b_lodgeref3_Elems_0 : Code := (loopsOf b_lodgeref3_Elems).getD 0 .skip
theorem g_lodgeref3_Elems_0_ok (S : Nat → Addr) (N : Nat) : ∀ n x y, (fun (x : Val (slotsTy h_lodgeref3_Elems_0)) => g_lodgeref3_Elems_0 N n x.1 x.2.1 x.2.2.1) x = some y → LoopCon Go.Proofs.Tryd.prog E S b_lodgeref3_Elems_0 (encSlots h_lodgeref3_Elems_0 x) (encEx e_lodgeref3_Elems_0 y).1 (encEx e_lodgeref3_Elems_0 y).2 :=
  loop_spec E_ok mixed (cs_lodgeref3_Elems_ok S N) (all := loopsOf b_lodgeref3_Elems) (ls := []) (.nil) (i := 0) (by kernel_rfl) (inner_of (by kernel_rfl)) (head := h_lodgeref3_Elems_0) (ex := e_lodgeref3_Elems_0) (fun n (x : Val (slotsTy h_lodgeref3_Elems_0)) => g_lodgeref3_Elems_0 N n x.1 x.2.1 x.2.2.1) (fun _ => rfl) (fun n x => by kernel_rfl)
theorem F_lodgeref3_Elems_ok (S : Nat → Addr) (N : Nat) : ∀ x y, (c_lodgeref3_Elems N).g x = some y → FCon Go.Proofs.Tryd.prog E S 52 ps_lodgeref3_Elems rs_lodgeref3_Elems x y := by
  intro x y h
  exact fun_spec E_ok mixed (cs_lodgeref3_Elems_ok S N) (f := 52) (fi := ⟨b_lodgeref3_Elems, 22, Go.Proofs.Tryd.f52.results.toList⟩) (by kernel_rfl) (ls := [l_lodgeref3_Elems_0 N]) (.cons (by kernel_rfl) (g_lodgeref3_Elems_0_ok S N N) (.nil)) (by kernel_rfl) (ps := ps_lodgeref3_Elems) (rs := rs_lodgeref3_Elems) (Eq.trans (b := F_lodgeref3_Elems N x.1) (by kernel_rfl) h)

/-! lodge/lodgeref3.Valid -/

abbrev ps_lodgeref3_Valid : List Ty := [(.st (.pair (.st (.pair (.sl (.int .i64)) .bool)) (.sl (.int .i64))))]
abbrev rs_lodgeref3_Valid : List Slot := [.data (.st (.pair (.int .i64) (.pair .bool (.int .i64))))]
abbrev cs_lodgeref3_Valid (N : Nat) : List CallSpec := [c_lodgeref3_ValidDesc N, c_lodgeref3_in N, c_lodgeref_Bare N, c_lodgeref_None N, c_lodgeref_Placed N, c_lodgeref3_Elems N]
noncomputable abbrev b_lodgeref3_Valid : Code := (Go.Proofs.Tryd.f23.body).getD .skip

abbrev h_lodgeref3_Valid_0 : List Slot := [.dead, .box [.d (.st (.pair (.st (.pair (.sl (.int .i64)) .bool)) (.sl (.int .i64))))], .box [.d (.st (.pair (.int .i64) (.pair .bool (.int .i64))))], .dead, .data (.int .i64), .dead, .dead, .dead, .dead, .dead, .dead, .dead, .dead, .dead, .dead, .dead, .dead, .dead, .dead, .dead, .dead, .dead, .dead, .dead, .dead, .dead, .dead, .dead, .dead, .dead, .dead, .dead, .dead, .dead, .dead, .dead, .dead, .dead, .dead, .dead, .dead]
abbrev e_lodgeref3_Valid_0 : List (AX × List Slot) := [(AX.exit 0, [.dead, .dead, .box [.d (.st (.pair (.int .i64) (.pair .bool (.int .i64))))], .dead, .dead, .dead, .dead, .dead, .dead, .dead, .dead, .dead, .dead, .dead, .dead, .dead, .dead, .dead, .dead, .dead, .dead, .dead, .dead, .dead, .dead, .dead, .dead, .dead, .dead, .dead, .dead, .dead, .dead, .dead, .dead, .dead, .dead, .dead, .dead, .dead, .dead]), (AX.ret, [.dead, .dead, .box [.d (.st (.pair (.int .i64) (.pair .bool (.int .i64))))], .dead, .dead, .dead, .dead, .dead, .dead, .dead, .dead, .dead, .dead, .dead, .dead, .dead, .dead, .dead, .dead, .dead, .dead, .dead, .dead, .dead, .dead, .dead, .dead, .dead, .dead, .dead, .dead, .dead, .dead, .dead, .dead, .dead, .dead, .dead, .dead, .dead, .dead])]
def g_lodgeref3_Valid_0 (N : Nat) : Nat → (((List Int × Bool) × List Int) × Unit) → ((Int × (Bool × Int)) × Unit) → Int → Option (Sum (((Int × (Bool × Int)) × Unit) × Unit) (((Int × (Bool × Int)) × Unit) × Unit))
  | 0, _, _, _ => none
  | n + 1, t_1, t_2, i_4 =>
    cond (decide (i_4 < (Nat.cast (List.length ((t_1).1).2) : Int)))
      (
      cond (decide ((0 : Int) ≤ i_4))
        (
        cond (decide ((Int.toNat i_4) < (List.length ((t_1).1).2)))
          (
          Option.bind (F_lodgeref3_in N (List.getD ((t_1).1).2 (Int.toNat i_4) (0 : Int)) (((t_1).1).1).2) fun y4 =>
          cond (Bool.not (y4).1)
            (
            Option.bind (F_lodgeref_Placed N (102 : Int) i_4) fun y5 =>
            some (Sum.inr (y5, ())))
            (
            (g_lodgeref3_Valid_0 N n t_1 t_2 (wi64 (i_4 + (1 : Int))))))
          (
          none))
        (
        none))
      (
      some (Sum.inl (t_2, ())))

def F_lodgeref3_Valid (N : Nat) (t_0 : ((List Int × Bool) × List Int)) : Option ((Int × (Bool × Int)) × Unit) :=
  Option.bind (F_lodgeref3_ValidDesc N (t_0).1) fun y0 =>
  cond (decide (@Ne Int (y0).1 (0 : Int)))
    (
    Option.bind (F_lodgeref_Bare N (y0).1) fun y1 =>
    some y1)
    (
    Option.bind (F_lodgeref3_Elems N ((t_0).1).1) fun y2 =>
    cond (decide (@Ne Int (Nat.cast (List.length (t_0).2) : Int) (y2).1))
      (
      Option.bind (F_lodgeref_Bare N (101 : Int)) fun y3 =>
      some y3)
      (
      Option.bind (g_lodgeref3_Valid_0 N N (t_0, ()) (((0 : Int), (false, (0 : Int))), ()) (0 : Int)) fun y4 =>
      Sum.elim (fun y5 =>
        Option.bind (F_lodgeref_None N) fun y6 =>
        some y6)
        (fun y7 =>
        some (y7).1) y4))

abbrev c_lodgeref3_Valid (N : Nat) : CallSpec := ⟨23, ps_lodgeref3_Valid, rs_lodgeref3_Valid, fun x => F_lodgeref3_Valid N x.1⟩
abbrev l_lodgeref3_Valid_0 (N : Nat) : LoopSpec := ⟨0, h_lodgeref3_Valid_0, e_lodgeref3_Valid_0, fun x => g_lodgeref3_Valid_0 N N x.1 x.2.1 x.2.2.1⟩

theorem cs_lodgeref3_Valid_ok (S : Nat → Addr) (N : Nat) : CallsOK Go.Proofs.Tryd.prog E S (cs_lodgeref3_Valid N) :=
  .cons (F_lodgeref3_ValidDesc_ok S N) (.cons (F_lodgeref3_in_ok S N) (.cons (F_lodgeref_Bare_ok S N) (.cons (F_lodgeref_None_ok S N) (.cons (F_lodgeref_Placed_ok S N) (.cons (F_lodgeref3_Elems_ok S N) (.nil))))))
noncomputable abbrev b_lodgeref3_Valid_0 : Code := (loopsOf b_lodgeref3_Valid).getD 0 .skip
theorem g_lodgeref3_Valid_0_ok (S : Nat → Addr) (N : Nat) : ∀ n x y, (fun (x : Val (slotsTy h_lodgeref3_Valid_0)) => g_lodgeref3_Valid_0 N n x.1 x.2.1 x.2.2.1) x = some y → LoopCon Go.Proofs.Tryd.prog E S b_lodgeref3_Valid_0 (encSlots h_lodgeref3_Valid_0 x) (encEx e_lodgeref3_Valid_0 y).1 (encEx e_lodgeref3_Valid_0 y).2 :=
  loop_spec E_ok mixed (cs_lodgeref3_Valid_ok S N) (all := loopsOf b_lodgeref3_Valid) (ls := []) (.nil) (i := 0) (by kernel_rfl) (inner_of (by kernel_rfl)) (head := h_lodgeref3_Valid_0) (ex := e_lodgeref3_Valid_0) (fun n (x : Val (slotsTy h_lodgeref3_Valid_0)) => g_lodgeref3_Valid_0 N n x.1 x.2.1 x.2.2.1) (fun _ => rfl) (fun n x => by kernel_rfl)
theorem F_lodgeref3_Valid_ok (S : Nat → Addr) (N : Nat) : ∀ x y, (c_lodgeref3_Valid N).g x = some y → FCon Go.Proofs.Tryd.prog E S 23 ps_lodgeref3_Valid rs_lodgeref3_Valid x y := by
  intro x y h
  exact fun_spec E_ok mixed (cs_lodgeref3_Valid_ok S N) (f := 23) (fi := ⟨b_lodgeref3_Valid, 41, Go.Proofs.Tryd.f23.results.toList⟩) (by kernel_rfl) (ls := [l_lodgeref3_Valid_0 N]) (.cons (by kernel_rfl) (g_lodgeref3_Valid_0_ok S N N) (.nil)) (by kernel_rfl) (ps := ps_lodgeref3_Valid) (rs := rs_lodgeref3_Valid) (Eq.trans (b := F_lodgeref3_Valid N x.1) (by kernel_rfl) h)


end Go.Proofs.YtmbcbocnncfpbaaDoor.Lg
