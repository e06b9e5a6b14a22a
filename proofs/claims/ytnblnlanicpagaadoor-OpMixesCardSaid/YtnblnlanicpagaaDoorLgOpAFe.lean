/-
  The functions of the seat's program, as plain functions.
-/
import Derived.Test.YtnblnlanicpagaaDoorLgOpAFd
namespace Go.Proofs.YtnblnlanicpagaaDoor.Lg
open Go Go.Eng Go.Proofs
set_option maxRecDepth 100000

/-! lodge/lodgeref3.descs -/

abbrev ps_lodgeref3_descs : List Ty := [(.sl (.st (.pair (.sl (.int .i64)) .bool)))]
abbrev rs_lodgeref3_descs : List Slot := [.data (.int .i64)]
abbrev cs_lodgeref3_descs (N : Nat) : List CallSpec := [c_lodgeref3_ValidDesc N]
noncomputable abbrev b_lodgeref3_descs : Code := (Go.Proofs.Tryd.f71.body).getD .skip

abbrev h_lodgeref3_descs_0 : List Slot := [.data (.sl (.st (.pair (.sl (.int .i64)) .bool))), .dead, .dead, .data (.int .i64), .dead, .dead, .dead, .dead, .dead, .dead, .dead, .dead, .dead, .dead, .dead, .dead, .dead, .dead, .dead]
abbrev e_lodgeref3_descs_0 : List (AX × List Slot) := [(AX.exit 0, [.dead, .dead, .dead, .dead, .dead, .dead, .dead, .dead, .dead, .dead, .dead, .dead, .dead, .dead, .dead, .dead, .dead, .dead, .dead]), (AX.ret, [.dead, .dead, .data (.int .i64), .dead, .dead, .dead, .dead, .dead, .dead, .dead, .dead, .dead, .dead, .dead, .dead, .dead, .dead, .dead, .dead])]
def g_lodgeref3_descs_0 (N : Nat) : Nat → List ((List Int × Bool)) → Int → Option (Sum Unit (Int × Unit))
  | 0, _, _ => none
  | n + 1, l_0, i_3 =>
    cond (decide (i_3 < (Nat.cast (List.length l_0) : Int)))
      (
      cond (decide ((0 : Int) ≤ i_3))
        (
        cond (decide ((Int.toNat i_3) < (List.length l_0)))
          (
          Option.bind (F_lodgeref3_ValidDesc N (List.getD l_0 (Int.toNat i_3) (([] : List Int), false))) fun y1 =>
          cond (decide (@Ne Int (y1).1 (0 : Int)))
            (
            some (Sum.inr y1))
            (
            (g_lodgeref3_descs_0 N n l_0 (wi64 (i_3 + (1 : Int))))))
          (
          none))
        (
        none))
      (
      some (Sum.inl ()))

def F_lodgeref3_descs (N : Nat) (l_0 : List ((List Int × Bool))) : Option (Int × Unit) :=
  Option.bind (g_lodgeref3_descs_0 N N l_0 (0 : Int)) fun y0 =>
  Sum.elim (fun y1 =>
    some ((0 : Int), ()))
    (fun y2 =>
    some y2) y0

abbrev c_lodgeref3_descs (N : Nat) : CallSpec := ⟨71, ps_lodgeref3_descs, rs_lodgeref3_descs, fun x => F_lodgeref3_descs N x.1⟩
abbrev l_lodgeref3_descs_0 (N : Nat) : LoopSpec := ⟨0, h_lodgeref3_descs_0, e_lodgeref3_descs_0, fun x => g_lodgeref3_descs_0 N N x.1 x.2.1⟩

theorem cs_lodgeref3_descs_ok (S : Nat → Addr) (N : Nat) : CallsOK Go.Proofs.Tryd.prog E S (cs_lodgeref3_descs N) :=
  .cons (F_lodgeref3_ValidDesc_ok S N) (.nil)
noncomputable abbrev b_lodgeref3_descs_0 : Code := (loopsOf b_lodgeref3_descs).getD 0 .skip
theorem g_lodgeref3_descs_0_ok (S : Nat → Addr) (N : Nat) : ∀ n x y, (fun (x : Val (slotsTy h_lodgeref3_descs_0)) => g_lodgeref3_descs_0 N n x.1 x.2.1) x = some y → LoopCon Go.Proofs.Tryd.prog E S b_lodgeref3_descs_0 (encSlots h_lodgeref3_descs_0 x) (encEx e_lodgeref3_descs_0 y).1 (encEx e_lodgeref3_descs_0 y).2 :=
  loop_spec E_ok mixed (cs_lodgeref3_descs_ok S N) (all := loopsOf b_lodgeref3_descs) (ls := []) (.nil) (i := 0) (by kernel_rfl) (inner_of (by kernel_rfl)) (head := h_lodgeref3_descs_0) (ex := e_lodgeref3_descs_0) (fun n (x : Val (slotsTy h_lodgeref3_descs_0)) => g_lodgeref3_descs_0 N n x.1 x.2.1) (fun _ => rfl) (fun n x => by kernel_rfl)
theorem F_lodgeref3_descs_ok (S : Nat → Addr) (N : Nat) : ∀ x y, (c_lodgeref3_descs N).g x = some y → FCon Go.Proofs.Tryd.prog E S 71 ps_lodgeref3_descs rs_lodgeref3_descs x y := by
  intro x y h
  exact fun_spec E_ok mixed (cs_lodgeref3_descs_ok S N) (f := 71) (fi := ⟨b_lodgeref3_descs, 19, Go.Proofs.Tryd.f71.results.toList⟩) (by kernel_rfl) (ls := [l_lodgeref3_descs_0 N]) (.cons (by kernel_rfl) (g_lodgeref3_descs_0_ok S N N) (.nil)) (by kernel_rfl) (ps := ps_lodgeref3_descs) (rs := rs_lodgeref3_descs) (Eq.trans (b := F_lodgeref3_descs N x.1) (by kernel_rfl) h)

/-! lodge/lodgeref.Ints -/

abbrev ps_lodgeref_Ints : List Ty := [(.sl (.int .i64))]
abbrev rs_lodgeref_Ints : List Slot := [.sl (.int .i64)]
abbrev cs_lodgeref_Ints (N : Nat) : List CallSpec := []
noncomputable abbrev b_lodgeref_Ints : Code := (Go.Proofs.Tryd.f48.body).getD .skip

abbrev h_lodgeref_Ints_0 : List Slot := [.data (.sl (.int .i64)), .dead, .dead, .sl (.int .i64), .data (.int .i64), .dead, .dead, .dead, .dead, .dead, .dead, .dead, .dead, .dead, .dead, .dead, .dead, .dead, .dead, .dead, .dead, .dead]
abbrev e_lodgeref_Ints_0 : List (AX × List Slot) := [(AX.exit 0, [.dead, .dead, .dead, .sl (.int .i64), .dead, .dead, .dead, .dead, .dead, .dead, .dead, .dead, .dead, .dead, .dead, .dead, .dead, .dead, .dead, .dead, .dead, .dead])]
def g_lodgeref_Ints_0 (N : Nat) : Nat → List Int → List Int → Int → Option (List Int × Unit)
  | 0, _, _, _ => none
  | n + 1, l_0, out_3, i_4 =>
    cond (decide (i_4 < (Nat.cast (List.length l_0) : Int)))
      (
      cond (decide ((0 : Int) ≤ i_4))
        (
        cond (decide ((Int.toNat i_4) < (List.length l_0)))
          (
          cond (decide (((0 : Nat) + (List.length out_3)) = (List.length out_3)))
            (
            cond (decide ((((List.length out_3) + 1) * (8 + (1 : Nat))) ≤ Go.Eng.most))
              (
              cond (decide (((List.length out_3) + 1) = (List.length ((List.take (List.length out_3) out_3) ++ ((List.getD l_0 (Int.toNat i_4) (0 : Int)) :: ([] : List Int))))))
                (
                (g_lodgeref_Ints_0 N n l_0 ((List.take (List.length out_3) out_3) ++ ((List.getD l_0 (Int.toNat i_4) (0 : Int)) :: ([] : List Int))) (wi64 (i_4 + (1 : Int)))))
                (
                none))
              (
              none))
            (
            none))
          (
          none))
        (
        none))
      (
      cond (decide ((List.length out_3) = (List.length out_3)))
        (
        some (out_3, ()))
        (
        none))

def F_lodgeref_Ints (N : Nat) (l_0 : List Int) : Option (List Int × Unit) :=
  cond (decide (((Nat.cast (List.length l_0) : Int) * ((Nat.cast 8 : Int) + (1 : Int))) ≤ (Nat.cast Go.Eng.most : Int)))
    (
    Option.bind (g_lodgeref_Ints_0 N N l_0 (List.replicate 0 (0 : Int)) (0 : Int)) fun y0 =>
    cond (decide ((List.length (y0).1) = (List.length (y0).1)))
      (
      some y0)
      (
      none))
    (
    none)

abbrev c_lodgeref_Ints (N : Nat) : CallSpec := ⟨48, ps_lodgeref_Ints, rs_lodgeref_Ints, fun x => F_lodgeref_Ints N x.1⟩
abbrev l_lodgeref_Ints_0 (N : Nat) : LoopSpec := ⟨0, h_lodgeref_Ints_0, e_lodgeref_Ints_0, fun x => g_lodgeref_Ints_0 N N x.1 x.2.1 x.2.2.1⟩

theorem cs_lodgeref_Ints_ok (S : Nat → Addr) (N : Nat) : CallsOK Go.Proofs.Tryd.prog E S (cs_lodgeref_Ints N) :=
  .nil
noncomputable abbrev b_lodgeref_Ints_0 : Code := (loopsOf b_lodgeref_Ints).getD 0 .skip
theorem g_lodgeref_Ints_0_ok (S : Nat → Addr) (N : Nat) : ∀ n x y, (fun (x : Val (slotsTy h_lodgeref_Ints_0)) => g_lodgeref_Ints_0 N n x.1 x.2.1 x.2.2.1) x = some y → LoopCon Go.Proofs.Tryd.prog E S b_lodgeref_Ints_0 (encSlots h_lodgeref_Ints_0 x) (encEx e_lodgeref_Ints_0 y).1 (encEx e_lodgeref_Ints_0 y).2 :=
  loop_spec E_ok mixed (cs_lodgeref_Ints_ok S N) (all := loopsOf b_lodgeref_Ints) (ls := []) (.nil) (i := 0) (by kernel_rfl) (inner_of (by kernel_rfl)) (head := h_lodgeref_Ints_0) (ex := e_lodgeref_Ints_0) (fun n (x : Val (slotsTy h_lodgeref_Ints_0)) => g_lodgeref_Ints_0 N n x.1 x.2.1 x.2.2.1) (fun _ => rfl) (fun n x => by kernel_rfl)
theorem F_lodgeref_Ints_ok (S : Nat → Addr) (N : Nat) : ∀ x y, (c_lodgeref_Ints N).g x = some y → FCon Go.Proofs.Tryd.prog E S 48 ps_lodgeref_Ints rs_lodgeref_Ints x y := by
  intro x y h
  exact fun_spec E_ok mixed (cs_lodgeref_Ints_ok S N) (f := 48) (fi := ⟨b_lodgeref_Ints, 22, Go.Proofs.Tryd.f48.results.toList⟩) (by kernel_rfl) (ls := [l_lodgeref_Ints_0 N]) (.cons (by kernel_rfl) (g_lodgeref_Ints_0_ok S N N) (.nil)) (by kernel_rfl) (ps := ps_lodgeref_Ints) (rs := rs_lodgeref_Ints) (Eq.trans (b := F_lodgeref_Ints N x.1) (by kernel_rfl) h)

/-! lodge/lodgeref.Desc -/

abbrev ps_lodgeref_Desc : List Ty := [(.st (.pair (.sl (.int .i64)) .bool))]
abbrev rs_lodgeref_Desc : List Slot := [.ag [.sl (.int .i64), .d .bool]]
abbrev cs_lodgeref_Desc (N : Nat) : List CallSpec := [c_lodgeref_Ints N]
noncomputable abbrev b_lodgeref_Desc : Code := (Go.Proofs.Tryd.f72.body).getD .skip

def F_lodgeref_Desc (N : Nat) (a_0 : (List Int × Bool)) : Option ((List Int × (Bool × Unit)) × Unit) :=
  Option.bind (F_lodgeref_Ints N (a_0).1) fun y0 =>
  cond (decide ((List.length (y0).1) = (List.length (y0).1)))
    (
    some (((y0).1, ((a_0).2, ())), ()))
    (
    none)

abbrev c_lodgeref_Desc (N : Nat) : CallSpec := ⟨72, ps_lodgeref_Desc, rs_lodgeref_Desc, fun x => F_lodgeref_Desc N x.1⟩

theorem cs_lodgeref_Desc_ok (S : Nat → Addr) (N : Nat) : CallsOK Go.Proofs.Tryd.prog E S (cs_lodgeref_Desc N) :=
  .cons (F_lodgeref_Ints_ok S N) (.nil)
theorem F_lodgeref_Desc_ok (S : Nat → Addr) (N : Nat) : ∀ x y, (c_lodgeref_Desc N).g x = some y → FCon Go.Proofs.Tryd.prog E S 72 ps_lodgeref_Desc rs_lodgeref_Desc x y := by
  intro x y h
  exact fun_spec E_ok mixed (cs_lodgeref_Desc_ok S N) (f := 72) (fi := ⟨b_lodgeref_Desc, 9, Go.Proofs.Tryd.f72.results.toList⟩) (by kernel_rfl) (ls := []) (.nil) (by kernel_rfl) (ps := ps_lodgeref_Desc) (rs := rs_lodgeref_Desc) (Eq.trans (b := F_lodgeref_Desc N x.1) (by kernel_rfl) h)

/-! lodge/lodgeref3.in -/

abbrev ps_lodgeref3_in : List Ty := [(.int .i64), .bool]
abbrev rs_lodgeref3_in : List Slot := [.data .bool]
abbrev cs_lodgeref3_in (N : Nat) : List CallSpec := []
noncomputable abbrev b_lodgeref3_in : Code := (Go.Proofs.Tryd.f73.body).getD .skip

def F_lodgeref3_in (N : Nat) (n_0 : Int) (wide_1 : Bool) : Option (Bool × Unit) :=
  cond wide_1
    (
    cond (decide ((-(2147483648 : Int)) ≤ n_0))
      (
      some ((decide (n_0 ≤ (2147483647 : Int))), ()))
      (
      some (false, ())))
    (
    cond (decide ((-(128 : Int)) ≤ n_0))
      (
      some ((decide (n_0 ≤ (127 : Int))), ()))
      (
      some (false, ())))

abbrev c_lodgeref3_in (N : Nat) : CallSpec := ⟨73, ps_lodgeref3_in, rs_lodgeref3_in, fun x => F_lodgeref3_in N x.1 x.2.1⟩

theorem cs_lodgeref3_in_ok (S : Nat → Addr) (N : Nat) : CallsOK Go.Proofs.Tryd.prog E S (cs_lodgeref3_in N) :=
  .nil
theorem F_lodgeref3_in_ok (S : Nat → Addr) (N : Nat) : ∀ x y, (c_lodgeref3_in N).g x = some y → FCon Go.Proofs.Tryd.prog E S 73 ps_lodgeref3_in rs_lodgeref3_in x y := by
  intro x y h
  exact fun_spec E_ok mixed (cs_lodgeref3_in_ok S N) (f := 73) (fi := ⟨b_lodgeref3_in, 18, Go.Proofs.Tryd.f73.results.toList⟩) (by kernel_rfl) (ls := []) (.nil) (by kernel_rfl) (ps := ps_lodgeref3_in) (rs := rs_lodgeref3_in) (Eq.trans (b := F_lodgeref3_in N x.1 x.2.1) (by kernel_rfl) h)

/-! lodge/lodgeref3.narrow -/

abbrev ps_lodgeref3_narrow : List Ty := [(.int .i64)]
abbrev rs_lodgeref3_narrow : List Slot := [.data .bool]
abbrev cs_lodgeref3_narrow (N : Nat) : List CallSpec := [c_lodgeref3_in N]
noncomputable abbrev b_lodgeref3_narrow : Code := (Go.Proofs.Tryd.f74.body).getD .skip

def F_lodgeref3_narrow (N : Nat) (n_0 : Int) : Option (Bool × Unit) :=
  Option.bind (F_lodgeref3_in N n_0 false) fun y0 =>
  some y0

abbrev c_lodgeref3_narrow (N : Nat) : CallSpec := ⟨74, ps_lodgeref3_narrow, rs_lodgeref3_narrow, fun x => F_lodgeref3_narrow N x.1⟩

theorem cs_lodgeref3_narrow_ok (S : Nat → Addr) (N : Nat) : CallsOK Go.Proofs.Tryd.prog E S (cs_lodgeref3_narrow N) :=
  .cons (F_lodgeref3_in_ok S N) (.nil)
theorem F_lodgeref3_narrow_ok (S : Nat → Addr) (N : Nat) : ∀ x y, (c_lodgeref3_narrow N).g x = some y → FCon Go.Proofs.Tryd.prog E S 74 ps_lodgeref3_narrow rs_lodgeref3_narrow x y := by
  intro x y h
  exact fun_spec E_ok mixed (cs_lodgeref3_narrow_ok S N) (f := 74) (fi := ⟨b_lodgeref3_narrow, 5, Go.Proofs.Tryd.f74.results.toList⟩) (by kernel_rfl) (ls := []) (.nil) (by kernel_rfl) (ps := ps_lodgeref3_narrow) (rs := rs_lodgeref3_narrow) (Eq.trans (b := F_lodgeref3_narrow N x.1) (by kernel_rfl) h)

/-! lodge/lodgeref3.ElemResult -/

abbrev ps_lodgeref3_ElemResult : List Ty := [(.int .i64), (.sl (.int .i64)), (.sl (.st (.pair (.sl (.int .i64)) .bool)))]
abbrev rs_lodgeref3_ElemResult : List Slot := [.ag [.sl (.int .i64), .d .bool], .data (.int .i64)]
abbrev cs_lodgeref3_ElemResult (N : Nat) : List CallSpec := [c_lodgeref_SameDesc N, c_lodgeref3_descs N, c_lodgeref_Desc N, c_lodgeref3_in N, c_lodgeref3_narrow N]
noncomputable abbrev b_lodgeref3_ElemResult : Code := (Go.Proofs.Tryd.f39.body).getD .skip

abbrev j_lodgeref3_ElemResult : Joins := [(29, [(AX.normal, [.dead, .dead, .dead, .dead, .dead, .dead, .box [.sl (.int .i64), .d .bool], .dead, .dead, .dead, .dead, .dead, .dead, .box [.sl (.int .i64), .d .bool], .dead, .dead, .dead, .dead, .dead, .dead, .dead, .dead, .dead, .dead, .dead, .dead, .dead, .dead, .dead, .dead, .dead, .dead, .dead, .dead, .dead, .dead, .dead, .dead, .dead, .dead, .dead, .dead, .dead, .dead, .dead, .dead, .dead, .dead, .dead, .dead, .dead, .dead, .dead, .dead, .dead, .dead, .dead, .dead, .dead, .dead, .dead, .dead, .dead, .dead, .dead, .dead, .dead, .dead, .dead, .dead, .dead, .dead, .dead, .dead, .dead, .dead, .dead, .dead, .dead, .dead, .dead, .dead, .dead, .dead, .dead, .dead, .dead, .dead, .dead, .dead, .dead, .dead, .dead, .dead, .dead, .dead, .dead, .dead, .dead, .dead, .dead, .dead, .dead, .dead, .dead, .dead, .dead, .dead, .dead, .dead, .dead, .dead, .dead, .dead, .dead, .dead, .dead, .dead, .dead, .dead, .dead, .dead, .dead, .dead, .dead, .dead, .dead, .dead, .dead, .dead, .dead, .data .bool, .dead, .dead, .dead, .dead, .dead, .dead, .dead, .dead, .dead, .dead, .dead, .dead, .dead, .dead, .dead, .dead, .dead, .dead, .dead, .dead, .dead, .dead, .dead, .dead, .dead, .dead, .dead, .dead, .dead, .dead, .dead, .dead, .dead, .dead, .dead, .dead, .dead, .dead, .dead, .dead, .dead, .dead, .dead, .dead])]),
  (33, [(AX.normal, [.dead, .dead, .dead, .dead, .dead, .dead, .box [.sl (.int .i64), .d .bool], .dead, .dead, .dead, .dead, .dead, .dead, .box [.sl (.int .i64), .d .bool], .dead, .dead, .dead, .dead, .dead, .dead, .dead, .dead, .dead, .dead, .dead, .dead, .dead, .dead, .dead, .dead, .dead, .dead, .dead, .dead, .dead, .dead, .dead, .dead, .dead, .dead, .dead, .dead, .dead, .dead, .dead, .dead, .dead, .dead, .dead, .dead, .dead, .dead, .dead, .dead, .dead, .dead, .dead, .dead, .dead, .dead, .dead, .dead, .dead, .dead, .dead, .dead, .dead, .dead, .dead, .dead, .dead, .dead, .dead, .dead, .dead, .dead, .dead, .dead, .dead, .dead, .dead, .dead, .dead, .dead, .dead, .dead, .dead, .dead, .dead, .dead, .dead, .dead, .dead, .dead, .dead, .dead, .dead, .dead, .dead, .dead, .dead, .dead, .dead, .dead, .dead, .dead, .dead, .dead, .dead, .dead, .dead, .dead, .dead, .dead, .dead, .dead, .dead, .dead, .dead, .dead, .dead, .dead, .dead, .dead, .dead, .dead, .dead, .dead, .dead, .dead, .dead, .dead, .dead, .dead, .dead, .dead, .dead, .dead, .dead, .dead, .dead, .dead, .dead, .dead, .dead, .dead, .dead, .dead, .dead, .dead, .dead, .dead, .dead, .dead, .dead, .dead, .dead, .dead, .dead, .dead, .dead, .dead, .dead, .data .bool, .dead, .dead, .dead, .dead, .dead, .dead, .dead, .dead, .dead, .dead, .dead, .dead])]),
  (23, [(AX.normal, [.data (.int .i64), .data (.sl (.int .i64)), .dead, .dead, .dead, .dead, .box [.sl (.int .i64), .d .bool], .dead, .dead, .dead, .dead, .dead, .box [.d (.st (.pair (.sl (.int .i64)) .bool))], .dead, .dead, .dead, .dead, .dead, .dead, .dead, .dead, .dead, .dead, .dead, .dead, .dead, .dead, .dead, .dead, .dead, .dead, .dead, .dead, .dead, .dead, .dead, .dead, .dead, .dead, .dead, .dead, .dead, .dead, .dead, .dead, .dead, .dead, .dead, .dead, .dead, .dead, .dead, .dead, .dead, .dead, .dead, .dead, .dead, .dead, .dead, .dead, .dead, .dead, .dead, .dead, .dead, .dead, .dead, .dead, .dead, .dead, .dead, .dead, .dead, .dead, .dead, .dead, .dead, .dead, .dead, .dead, .dead, .dead, .dead, .dead, .dead, .dead, .dead, .dead, .dead, .dead, .dead, .dead, .dead, .dead, .dead, .dead, .dead, .dead, .dead, .data .bool, .dead, .dead, .dead, .dead, .dead, .dead, .dead, .dead, .dead, .dead, .dead, .dead, .dead, .dead, .dead, .dead, .dead, .dead, .dead, .dead, .dead, .dead, .dead, .dead, .dead, .dead, .dead, .dead, .dead, .dead, .dead, .dead, .dead, .dead, .dead, .dead, .dead, .dead, .dead, .dead, .dead, .dead, .dead, .dead, .dead, .dead, .dead, .dead, .dead, .dead, .dead, .dead, .dead, .dead, .dead, .dead, .dead, .dead, .dead, .dead, .dead, .dead, .dead, .dead, .dead, .dead, .dead, .dead, .dead, .dead, .dead, .dead, .dead, .dead, .dead])]),
  (15, [(AX.normal, [.data (.int .i64), .data (.sl (.int .i64)), .data (.sl (.st (.pair (.sl (.int .i64)) .bool))), .dead, .dead, .dead, .box [.sl (.int .i64), .d .bool], .dead, .data .bool, .dead, .dead, .dead, .dead, .dead, .dead, .dead, .dead, .dead, .dead, .dead, .dead, .dead, .dead, .dead, .dead, .dead, .dead, .dead, .dead, .dead, .dead, .dead, .dead, .dead, .dead, .dead, .dead, .dead, .dead, .dead, .dead, .dead, .dead, .dead, .dead, .dead, .dead, .dead, .dead, .dead, .dead, .dead, .dead, .dead, .dead, .dead, .dead, .dead, .dead, .dead, .dead, .dead, .dead, .dead, .data .bool, .dead, .dead, .dead, .dead, .dead, .dead, .dead, .dead, .dead, .dead, .dead, .dead, .dead, .dead, .dead, .dead, .dead, .dead, .dead, .dead, .dead, .dead, .dead, .dead, .dead, .dead, .dead, .dead, .dead, .dead, .dead, .dead, .dead, .dead, .dead, .dead, .dead, .dead, .dead, .dead, .dead, .dead, .dead, .dead, .dead, .dead, .dead, .dead, .dead, .dead, .dead, .dead, .dead, .dead, .dead, .dead, .dead, .dead, .dead, .dead, .dead, .dead, .dead, .dead, .dead, .dead, .dead, .dead, .dead, .dead, .dead, .dead, .dead, .dead, .dead, .dead, .dead, .dead, .dead, .dead, .dead, .dead, .dead, .dead, .dead, .dead, .dead, .dead, .dead, .dead, .dead, .dead, .dead, .dead, .dead, .dead, .dead, .dead, .dead, .dead, .dead, .dead, .dead, .dead, .dead, .dead, .dead, .dead, .dead, .dead, .dead])]),
  (12, [(AX.normal, [.data (.int .i64), .data (.sl (.int .i64)), .data (.sl (.st (.pair (.sl (.int .i64)) .bool))), .dead, .dead, .dead, .box [.sl (.int .i64), .d .bool], .dead, .data .bool, .data (.int .i64), .data (.int .i64), .dead, .dead, .dead, .dead, .dead, .dead, .dead, .dead, .dead, .dead, .dead, .dead, .dead, .dead, .dead, .dead, .dead, .dead, .dead, .dead, .dead, .dead, .dead, .dead, .dead, .dead, .dead, .dead, .dead, .dead, .dead, .dead, .dead, .dead, .dead, .dead, .dead, .dead, .dead, .dead, .dead, .dead, .dead, .dead, .dead, .dead, .dead, .dead, .dead, .dead, .dead, .dead, .dead, .dead, .dead, .dead, .dead, .dead, .dead, .dead, .dead, .dead, .dead, .dead, .dead, .dead, .dead, .dead, .dead, .dead, .dead, .dead, .dead, .dead, .dead, .dead, .dead, .dead, .dead, .dead, .dead, .dead, .dead, .dead, .dead, .dead, .dead, .dead, .dead, .dead, .dead, .dead, .dead, .dead, .dead, .dead, .dead, .dead, .dead, .dead, .dead, .dead, .dead, .dead, .dead, .dead, .dead, .dead, .dead, .dead, .dead, .dead, .dead, .dead, .dead, .dead, .dead, .dead, .dead, .dead, .dead, .dead, .dead, .dead, .dead, .dead, .dead, .dead, .dead, .dead, .dead, .dead, .dead, .dead, .dead, .dead, .dead, .dead, .dead, .dead, .dead, .dead, .dead, .dead, .dead, .dead, .dead, .dead, .dead, .dead, .dead, .dead, .dead, .dead, .dead, .dead, .dead, .dead, .dead, .dead, .dead, .dead, .dead, .dead, .dead])]),
  (7, [(AX.normal, [.data (.int .i64), .data (.sl (.int .i64)), .data (.sl (.st (.pair (.sl (.int .i64)) .bool))), .dead, .dead, .dead, .box [.sl (.int .i64), .d .bool], .dead, .data .bool, .data (.int .i64), .data (.int .i64), .dead, .dead, .dead, .dead, .dead, .dead, .dead, .dead, .dead, .dead, .dead, .dead, .dead, .dead, .dead, .dead, .dead, .dead, .dead, .dead, .dead, .dead, .dead, .dead, .dead, .dead, .dead, .dead, .dead, .dead, .dead, .dead, .dead, .dead, .dead, .dead, .dead, .dead, .dead, .dead, .dead, .dead, .dead, .dead, .dead, .dead, .dead, .dead, .dead, .dead, .dead, .dead, .dead, .dead, .dead, .dead, .dead, .dead, .dead, .dead, .dead, .dead, .dead, .dead, .dead, .dead, .dead, .dead, .dead, .dead, .dead, .dead, .dead, .dead, .dead, .dead, .dead, .dead, .dead, .dead, .dead, .dead, .dead, .dead, .dead, .dead, .dead, .dead, .dead, .dead, .dead, .dead, .dead, .dead, .dead, .dead, .dead, .dead, .dead, .dead, .dead, .dead, .dead, .dead, .dead, .dead, .dead, .dead, .dead, .dead, .dead, .dead, .dead, .dead, .dead, .dead, .dead, .dead, .dead, .dead, .dead, .dead, .dead, .dead, .dead, .dead, .dead, .dead, .dead, .dead, .dead, .dead, .dead, .dead, .dead, .dead, .dead, .dead, .dead, .dead, .dead, .dead, .dead, .dead, .dead, .dead, .dead, .dead, .dead, .dead, .dead, .dead, .dead, .dead, .dead, .dead, .dead, .dead, .dead, .dead, .dead, .dead, .dead, .dead, .dead])]),
  (3, [(AX.normal, [.data (.int .i64), .data (.sl (.int .i64)), .data (.sl (.st (.pair (.sl (.int .i64)) .bool))), .dead, .dead, .dead, .box [.sl (.int .i64), .d .bool], .dead, .data .bool, .dead, .dead, .dead, .dead, .dead, .dead, .dead, .dead, .dead, .dead, .dead, .dead, .dead, .dead, .dead, .dead, .dead, .dead, .dead, .dead, .dead, .dead, .dead, .dead, .dead, .dead, .dead, .dead, .dead, .dead, .dead, .dead, .dead, .dead, .dead, .dead, .data .bool, .dead, .dead, .dead, .dead, .dead, .dead, .dead, .dead, .dead, .dead, .dead, .dead, .dead, .dead, .dead, .dead, .dead, .dead, .dead, .dead, .dead, .dead, .dead, .dead, .dead, .dead, .dead, .dead, .dead, .dead, .dead, .dead, .dead, .dead, .dead, .dead, .dead, .dead, .dead, .dead, .dead, .dead, .dead, .dead, .dead, .dead, .dead, .dead, .dead, .dead, .dead, .dead, .dead, .dead, .dead, .dead, .dead, .dead, .dead, .dead, .dead, .dead, .dead, .dead, .dead, .dead, .dead, .dead, .dead, .dead, .dead, .dead, .dead, .dead, .dead, .dead, .dead, .dead, .dead, .dead, .dead, .dead, .dead, .dead, .dead, .dead, .dead, .dead, .dead, .dead, .dead, .dead, .dead, .dead, .dead, .dead, .dead, .dead, .dead, .dead, .dead, .dead, .dead, .dead, .dead, .dead, .dead, .dead, .dead, .dead, .dead, .dead, .dead, .dead, .dead, .dead, .dead, .dead, .dead, .dead, .dead, .dead, .dead, .dead, .dead, .dead, .dead, .dead, .dead, .dead])]),
  (1, [(AX.normal, [.data (.int .i64), .data (.sl (.int .i64)), .data (.sl (.st (.pair (.sl (.int .i64)) .bool))), .dead, .dead, .dead, .box [.sl (.int .i64), .d .bool], .dead, .data .bool, .dead, .dead, .dead, .dead, .dead, .dead, .dead, .dead, .dead, .dead, .dead, .dead, .dead, .dead, .dead, .dead, .dead, .dead, .dead, .dead, .dead, .dead, .dead, .dead, .dead, .dead, .dead, .dead, .dead, .dead, .dead, .dead, .dead, .dead, .dead, .dead, .dead, .dead, .dead, .dead, .dead, .dead, .dead, .dead, .dead, .dead, .dead, .dead, .dead, .dead, .dead, .dead, .dead, .dead, .dead, .dead, .dead, .dead, .dead, .dead, .dead, .dead, .dead, .dead, .dead, .dead, .dead, .dead, .dead, .dead, .dead, .dead, .dead, .dead, .dead, .dead, .dead, .dead, .dead, .dead, .dead, .dead, .dead, .dead, .dead, .dead, .dead, .dead, .dead, .dead, .dead, .dead, .dead, .dead, .dead, .dead, .dead, .dead, .dead, .dead, .dead, .dead, .dead, .dead, .dead, .dead, .dead, .dead, .dead, .dead, .dead, .dead, .dead, .dead, .dead, .dead, .dead, .dead, .dead, .dead, .dead, .dead, .dead, .dead, .dead, .dead, .dead, .dead, .dead, .dead, .dead, .dead, .dead, .dead, .dead, .dead, .dead, .dead, .dead, .dead, .dead, .dead, .dead, .dead, .dead, .dead, .dead, .dead, .dead, .dead, .dead, .dead, .dead, .dead, .dead, .dead, .dead, .dead, .dead, .dead, .dead, .dead, .dead, .dead, .dead, .dead, .dead])])]
def F_lodgeref3_ElemResult (N : Nat) (op_0 : Int) (args_1 : List Int) (ins_2 : List ((List Int × Bool))) : Option ((List Int × (Bool × Unit)) × (Int × Unit)) :=
  Option.bind (
      cond (decide (op_0 = (4 : Int)))
        (
        some (op_0, (args_1, (ins_2, ((([] : List Int), (false, ())), (true, ()))))))
        (
        cond (decide (op_0 = (5 : Int)))
          (
          some (op_0, (args_1, (ins_2, ((([] : List Int), (false, ())), (true, ()))))))
          (
          cond (decide (op_0 = (6 : Int)))
            (
            some (op_0, (args_1, (ins_2, ((([] : List Int), (false, ())), (true, ()))))))
            (
            some (op_0, (args_1, (ins_2, ((([] : List Int), (false, ())), ((decide (op_0 = (7 : Int))), ()))))))))) fun y0 =>
  Option.bind (
      cond (Bool.not (((((y0).2).2).2).2).1)
        (
        cond (decide (@Ne Int (y0).1 (8 : Int)))
          (
          cond (decide (@Ne Int (y0).1 (9 : Int)))
            (
            cond (decide (@Ne Int (y0).1 (10 : Int)))
              (
              cond (decide ((List.length (((((y0).2).2).2).1).1) = (List.length (((((y0).2).2).2).1).1)))
                (
                some ((y0).1, (((y0).2).1, ((((y0).2).2).1, (((((y0).2).2).2).1, ((((((y0).2).2).2).2).1, ((decide (@Ne Int (y0).1 (11 : Int))), ())))))))
                (
                none))
              (
              cond (decide ((List.length (((((y0).2).2).2).1).1) = (List.length (((((y0).2).2).2).1).1)))
                (
                some ((y0).1, (((y0).2).1, ((((y0).2).2).1, (((((y0).2).2).2).1, ((((((y0).2).2).2).2).1, (false, ())))))))
                (
                none)))
            (
            cond (decide ((List.length (((((y0).2).2).2).1).1) = (List.length (((((y0).2).2).2).1).1)))
              (
              some ((y0).1, (((y0).2).1, ((((y0).2).2).1, (((((y0).2).2).2).1, ((((((y0).2).2).2).2).1, (false, ())))))))
              (
              none)))
          (
          cond (decide ((List.length (((((y0).2).2).2).1).1) = (List.length (((((y0).2).2).2).1).1)))
            (
            some ((y0).1, (((y0).2).1, ((((y0).2).2).1, (((((y0).2).2).2).1, ((((((y0).2).2).2).2).1, (false, ())))))))
            (
            none)))
        (
        cond (decide ((List.length (((((y0).2).2).2).1).1) = (List.length (((((y0).2).2).2).1).1)))
          (
          some ((y0).1, (((y0).2).1, ((((y0).2).2).1, (((((y0).2).2).2).1, ((((((y0).2).2).2).2).1, (false, ())))))))
          (
          none))) fun y1 =>
  cond ((((((y1).2).2).2).2).2).1
    (
    some ((([] : List Int), (false, ())), ((103 : Int), ())))
    (
    Option.bind (
        cond (decide ((y1).1 = (9 : Int)))
          (
          cond (decide ((List.length (((((y1).2).2).2).1).1) = (List.length (((((y1).2).2).2).1).1)))
            (
            some ((y1).1, (((y1).2).1, ((((y1).2).2).1, (((((y1).2).2).2).1, ((((((y1).2).2).2).2).1, ((2 : Int), ((1 : Int), ()))))))))
            (
            none))
          (
          cond (decide ((y1).1 = (10 : Int)))
            (
            cond (decide ((List.length (((((y1).2).2).2).1).1) = (List.length (((((y1).2).2).2).1).1)))
              (
              some ((y1).1, (((y1).2).1, ((((y1).2).2).1, (((((y1).2).2).2).1, ((((((y1).2).2).2).2).1, ((3 : Int), ((1 : Int), ()))))))))
              (
              none))
            (
            cond (decide ((y1).1 = (11 : Int)))
              (
              cond (decide ((List.length (((((y1).2).2).2).1).1) = (List.length (((((y1).2).2).2).1).1)))
                (
                some ((y1).1, (((y1).2).1, ((((y1).2).2).1, (((((y1).2).2).2).1, ((((((y1).2).2).2).2).1, ((1 : Int), ((1 : Int), ()))))))))
                (
                none))
              (
              cond (decide ((List.length (((((y1).2).2).2).1).1) = (List.length (((((y1).2).2).2).1).1)))
                (
                some ((y1).1, (((y1).2).1, ((((y1).2).2).1, (((((y1).2).2).2).1, ((((((y1).2).2).2).2).1, ((0 : Int), ((1 : Int), ()))))))))
                (
                none))))) fun y2 =>
    Option.bind (
        cond (((((y2).2).2).2).2).1
          (
          cond (decide ((List.length (((((y2).2).2).2).1).1) = (List.length (((((y2).2).2).2).1).1)))
            (
            some ((y2).1, (((y2).2).1, ((((y2).2).2).1, (((((y2).2).2).2).1, ((((((y2).2).2).2).2).1, (((((((y2).2).2).2).2).2).1, ((2 : Int), ()))))))))
            (
            none))
          (
          cond (decide ((List.length (((((y2).2).2).2).1).1) = (List.length (((((y2).2).2).2).1).1)))
            (
            some y2)
            (
            none))) fun y3 =>
    Option.bind (
        cond (decide (@Ne Int (Nat.cast (List.length ((y3).2).1) : Int) ((((((y3).2).2).2).2).2).1))
          (
          cond (decide ((List.length (((((y3).2).2).2).1).1) = (List.length (((((y3).2).2).2).1).1)))
            (
            some ((y3).1, (((y3).2).1, ((((y3).2).2).1, (((((y3).2).2).2).1, ((((((y3).2).2).2).2).1, (true, ())))))))
            (
            none))
          (
          cond (decide ((List.length (((((y3).2).2).2).1).1) = (List.length (((((y3).2).2).2).1).1)))
            (
            some ((y3).1, (((y3).2).1, ((((y3).2).2).1, (((((y3).2).2).2).1, ((((((y3).2).2).2).2).1, ((decide (@Ne Int (Nat.cast (List.length (((y3).2).2).1) : Int) (((((((y3).2).2).2).2).2).2).1)), ())))))))
            (
            none))) fun y4 =>
    cond ((((((y4).2).2).2).2).2).1
      (
      some ((([] : List Int), (false, ())), ((101 : Int), ())))
      (
      Option.bind (F_lodgeref3_descs N (((y4).2).2).1) fun y5 =>
      cond (decide (@Ne Int (y5).1 (0 : Int)))
        (
        some ((([] : List Int), (false, ())), y5))
        (
        cond (decide (0 < (List.length (((y4).2).2).1)))
          (
          Option.bind (
              cond (((((y4).2).2).2).2).1
                (
                cond (decide (1 < (List.length (((y4).2).2).1)))
                  (
                  Option.bind (F_lodgeref_SameDesc N (List.getD (((y4).2).2).1 0 (([] : List Int), false)) (List.getD (((y4).2).2).1 1 (([] : List Int), false))) fun y6 =>
                  cond (Bool.not (y6).1)
                    (
                    cond (decide ((List.length (((((y4).2).2).2).1).1) = (List.length (((((y4).2).2).2).1).1)))
                      (
                      some ((y4).1, (((y4).2).1, (((((y4).2).2).2).1, (((List.getD (((y4).2).2).1 0 (([] : List Int), false)), ()), (true, ()))))))
                      (
                      none))
                    (
                    cond (decide ((y4).1 = (10 : Int)))
                      (
                      cond (Bool.not ((List.getD (((y4).2).2).1 0 (([] : List Int), false))).2)
                        (
                        cond (decide ((List.length (((((y4).2).2).2).1).1) = (List.length (((((y4).2).2).2).1).1)))
                          (
                          some ((y4).1, (((y4).2).1, (((((y4).2).2).2).1, (((List.getD (((y4).2).2).1 0 (([] : List Int), false)), ()), (true, ()))))))
                          (
                          none))
                        (
                        cond (decide ((y4).1 = (11 : Int)))
                          (
                          cond (decide ((List.length (((((y4).2).2).2).1).1) = (List.length (((((y4).2).2).2).1).1)))
                            (
                            some ((y4).1, (((y4).2).1, (((((y4).2).2).2).1, (((List.getD (((y4).2).2).1 0 (([] : List Int), false)), ()), (((List.getD (((y4).2).2).1 0 (([] : List Int), false))).2, ()))))))
                            (
                            none))
                          (
                          cond (decide ((List.length (((((y4).2).2).2).1).1) = (List.length (((((y4).2).2).2).1).1)))
                            (
                            some ((y4).1, (((y4).2).1, (((((y4).2).2).2).1, (((List.getD (((y4).2).2).1 0 (([] : List Int), false)), ()), (false, ()))))))
                            (
                            none))))
                      (
                      cond (decide ((y4).1 = (11 : Int)))
                        (
                        cond (decide ((List.length (((((y4).2).2).2).1).1) = (List.length (((((y4).2).2).2).1).1)))
                          (
                          some ((y4).1, (((y4).2).1, (((((y4).2).2).2).1, (((List.getD (((y4).2).2).1 0 (([] : List Int), false)), ()), (((List.getD (((y4).2).2).1 0 (([] : List Int), false))).2, ()))))))
                          (
                          none))
                        (
                        cond (decide ((List.length (((((y4).2).2).2).1).1) = (List.length (((((y4).2).2).2).1).1)))
                          (
                          some ((y4).1, (((y4).2).1, (((((y4).2).2).2).1, (((List.getD (((y4).2).2).1 0 (([] : List Int), false)), ()), (false, ()))))))
                          (
                          none)))))
                  (
                  none))
                (
                cond (decide ((y4).1 = (10 : Int)))
                  (
                  cond (Bool.not ((List.getD (((y4).2).2).1 0 (([] : List Int), false))).2)
                    (
                    cond (decide ((List.length (((((y4).2).2).2).1).1) = (List.length (((((y4).2).2).2).1).1)))
                      (
                      some ((y4).1, (((y4).2).1, (((((y4).2).2).2).1, (((List.getD (((y4).2).2).1 0 (([] : List Int), false)), ()), (true, ()))))))
                      (
                      none))
                    (
                    cond (decide ((y4).1 = (11 : Int)))
                      (
                      cond (decide ((List.length (((((y4).2).2).2).1).1) = (List.length (((((y4).2).2).2).1).1)))
                        (
                        some ((y4).1, (((y4).2).1, (((((y4).2).2).2).1, (((List.getD (((y4).2).2).1 0 (([] : List Int), false)), ()), (((List.getD (((y4).2).2).1 0 (([] : List Int), false))).2, ()))))))
                        (
                        none))
                      (
                      cond (decide ((List.length (((((y4).2).2).2).1).1) = (List.length (((((y4).2).2).2).1).1)))
                        (
                        some ((y4).1, (((y4).2).1, (((((y4).2).2).2).1, (((List.getD (((y4).2).2).1 0 (([] : List Int), false)), ()), (false, ()))))))
                        (
                        none))))
                  (
                  cond (decide ((y4).1 = (11 : Int)))
                    (
                    cond (decide ((List.length (((((y4).2).2).2).1).1) = (List.length (((((y4).2).2).2).1).1)))
                      (
                      some ((y4).1, (((y4).2).1, (((((y4).2).2).2).1, (((List.getD (((y4).2).2).1 0 (([] : List Int), false)), ()), (((List.getD (((y4).2).2).1 0 (([] : List Int), false))).2, ()))))))
                      (
                      none))
                    (
                    cond (decide ((List.length (((((y4).2).2).2).1).1) = (List.length (((((y4).2).2).2).1).1)))
                      (
                      some ((y4).1, (((y4).2).1, (((((y4).2).2).2).1, (((List.getD (((y4).2).2).1 0 (([] : List Int), false)), ()), (false, ()))))))
                      (
                      none))))) fun y7 =>
          cond (((((y7).2).2).2).2).1
            (
            some ((([] : List Int), (false, ())), ((101 : Int), ())))
            (
            Option.bind (F_lodgeref_Desc N (((((y7).2).2).2).1).1) fun y8 =>
            cond (decide ((y7).1 = (9 : Int)))
              (
              Option.bind (
                  cond (decide (0 < (List.length ((y7).2).1)))
                    (
                    Option.bind (F_lodgeref3_in N (List.getD ((y7).2).1 0 (0 : Int)) ((((((y7).2).2).2).1).1).2) fun y9 =>
                    cond (Bool.not (y9).1)
                      (
                      cond (decide ((List.length ((((y7).2).2).1).1) = (List.length ((((y7).2).2).1).1)))
                        (
                        cond (decide ((List.length ((y8).1).1) = (List.length ((y8).1).1)))
                          (
                          some ((((y7).2).2).1, ((y8).1, (true, ()))))
                          (
                          none))
                        (
                        none))
                      (
                      cond (decide (1 < (List.length ((y7).2).1)))
                        (
                        Option.bind (F_lodgeref3_in N (List.getD ((y7).2).1 1 (0 : Int)) ((((((y7).2).2).2).1).1).2) fun y10 =>
                        cond (Bool.not (y10).1)
                          (
                          cond (decide ((List.length ((((y7).2).2).1).1) = (List.length ((((y7).2).2).1).1)))
                            (
                            cond (decide ((List.length ((y8).1).1) = (List.length ((y8).1).1)))
                              (
                              some ((((y7).2).2).1, ((y8).1, (true, ()))))
                              (
                              none))
                            (
                            none))
                          (
                          cond (decide (0 < (List.length ((y7).2).1)))
                            (
                            cond (decide (1 < (List.length ((y7).2).1)))
                              (
                              cond (decide ((List.length ((((y7).2).2).1).1) = (List.length ((((y7).2).2).1).1)))
                                (
                                cond (decide ((List.length ((y8).1).1) = (List.length ((y8).1).1)))
                                  (
                                  some ((((y7).2).2).1, ((y8).1, ((decide ((List.getD ((y7).2).1 1 (0 : Int)) < (List.getD ((y7).2).1 0 (0 : Int)))), ()))))
                                  (
                                  none))
                                (
                                none))
                              (
                              none))
                            (
                            none)))
                        (
                        none)))
                    (
                    none)) fun y11 =>
              cond (((y11).2).2).1
                (
                some ((([] : List Int), (false, ())), ((102 : Int), ())))
                (
                cond (decide ((List.length (((y11).2).1).1) = (List.length (((y11).2).1).1)))
                  (
                  some (((y11).2).1, ((0 : Int), ())))
                  (
                  none)))
              (
              cond (decide ((y7).1 = (10 : Int)))
                (
                Option.bind (
                    cond (decide (0 < (List.length ((y7).2).1)))
                      (
                      cond (decide ((List.getD ((y7).2).1 0 (0 : Int)) < (0 : Int)))
                        (
                        cond (decide ((List.length ((((y7).2).2).1).1) = (List.length ((((y7).2).2).1).1)))
                          (
                          cond (decide ((List.length ((y8).1).1) = (List.length ((y8).1).1)))
                            (
                            some ((((y7).2).2).1, ((y8).1, (true, ()))))
                            (
                            none))
                          (
                          none))
                        (
                        cond (decide (0 < (List.length ((y7).2).1)))
                          (
                          cond (decide ((2147483647 : Int) < (List.getD ((y7).2).1 0 (0 : Int))))
                            (
                            cond (decide ((List.length ((((y7).2).2).1).1) = (List.length ((((y7).2).2).1).1)))
                              (
                              cond (decide ((List.length ((y8).1).1) = (List.length ((y8).1).1)))
                                (
                                some ((((y7).2).2).1, ((y8).1, (true, ()))))
                                (
                                none))
                              (
                              none))
                            (
                            cond (decide (1 < (List.length ((y7).2).1)))
                              (
                              cond (decide ((List.getD ((y7).2).1 1 (0 : Int)) < (0 : Int)))
                                (
                                cond (decide ((List.length ((((y7).2).2).1).1) = (List.length ((((y7).2).2).1).1)))
                                  (
                                  cond (decide ((List.length ((y8).1).1) = (List.length ((y8).1).1)))
                                    (
                                    some ((((y7).2).2).1, ((y8).1, (true, ()))))
                                    (
                                    none))
                                  (
                                  none))
                                (
                                cond (decide (1 < (List.length ((y7).2).1)))
                                  (
                                  cond (decide ((62 : Int) < (List.getD ((y7).2).1 1 (0 : Int))))
                                    (
                                    cond (decide ((List.length ((((y7).2).2).1).1) = (List.length ((((y7).2).2).1).1)))
                                      (
                                      cond (decide ((List.length ((y8).1).1) = (List.length ((y8).1).1)))
                                        (
                                        some ((((y7).2).2).1, ((y8).1, (true, ()))))
                                        (
                                        none))
                                      (
                                      none))
                                    (
                                    cond (decide (2 < (List.length ((y7).2).1)))
                                      (
                                      Option.bind (F_lodgeref3_narrow N (List.getD ((y7).2).1 2 (0 : Int))) fun y12 =>
                                      cond (decide ((List.length ((((y7).2).2).1).1) = (List.length ((((y7).2).2).1).1)))
                                        (
                                        cond (decide ((List.length ((y8).1).1) = (List.length ((y8).1).1)))
                                          (
                                          some ((((y7).2).2).1, ((y8).1, ((Bool.not (y12).1), ()))))
                                          (
                                          none))
                                        (
                                        none))
                                      (
                                      none)))
                                  (
                                  none)))
                              (
                              none)))
                          (
                          none)))
                      (
                      none)) fun y13 =>
                cond (((y13).2).2).1
                  (
                  some ((([] : List Int), (false, ())), ((102 : Int), ())))
                  (
                  cond (decide ((List.length (((y13).2).1).1) = (List.length (((y13).2).1).1)))
                    (
                    some (((((y13).2).1).1, (false, ())), ((0 : Int), ())))
                    (
                    none)))
                (
                cond (decide ((y7).1 = (11 : Int)))
                  (
                  cond (decide (0 < (List.length ((y7).2).1)))
                    (
                    Option.bind (F_lodgeref3_narrow N (List.getD ((y7).2).1 0 (0 : Int))) fun y14 =>
                    cond (Bool.not (y14).1)
                      (
                      some ((([] : List Int), (false, ())), ((102 : Int), ())))
                      (
                      cond (decide ((List.length ((y8).1).1) = (List.length ((y8).1).1)))
                        (
                        some ((((y8).1).1, (true, ())), ((0 : Int), ())))
                        (
                        none)))
                    (
                    none))
                  (
                  cond (decide ((List.length ((y8).1).1) = (List.length ((y8).1).1)))
                    (
                    some ((y8).1, ((0 : Int), ())))
                    (
                    none))))))
          (
          none))))

abbrev c_lodgeref3_ElemResult (N : Nat) : CallSpec := ⟨39, ps_lodgeref3_ElemResult, rs_lodgeref3_ElemResult, fun x => F_lodgeref3_ElemResult N x.1 x.2.1 x.2.2.1⟩

theorem cs_lodgeref3_ElemResult_ok (S : Nat → Addr) (N : Nat) : CallsOK Go.Proofs.Tryd.prog E S (cs_lodgeref3_ElemResult N) :=
  .cons (F_lodgeref_SameDesc_ok S N) (.cons (F_lodgeref3_descs_ok S N) (.cons (F_lodgeref_Desc_ok S N) (.cons (F_lodgeref3_in_ok S N) (.cons (F_lodgeref3_narrow_ok S N) (.nil)))))
theorem F_lodgeref3_ElemResult_ok (S : Nat → Addr) (N : Nat) : ∀ x y, (c_lodgeref3_ElemResult N).g x = some y → FCon Go.Proofs.Tryd.prog E S 39 ps_lodgeref3_ElemResult rs_lodgeref3_ElemResult x y := by
  intro x y h
  exact fun_specJ E_ok mixed (cs_lodgeref3_ElemResult_ok S N) (f := 39) (fi := ⟨b_lodgeref3_ElemResult, 176, Go.Proofs.Tryd.f39.results.toList⟩) (by kernel_rfl) (ls := []) (.nil) (js := j_lodgeref3_ElemResult) (by kernel_rfl) (ps := ps_lodgeref3_ElemResult) (rs := rs_lodgeref3_ElemResult) (Eq.trans (b := F_lodgeref3_ElemResult N x.1 x.2.1 x.2.2.1) (by kernel_rfl) h)

/-! lodge/lodgeref3.Ins -/

abbrev ps_lodgeref3_Ins : List Ty := [(.int .i64)]
abbrev rs_lodgeref3_Ins : List Slot := [.data (.int .i64)]
abbrev cs_lodgeref3_Ins (N : Nat) : List CallSpec := [c_lodgeref3_Known N]
noncomputable abbrev b_lodgeref3_Ins : Code := (Go.Proofs.Tryd.f40.body).getD .skip

def F_lodgeref3_Ins (N : Nat) (op_0 : Int) : Option (Int × Unit) :=
  cond (decide (op_0 = (4 : Int)))
    (
    some ((2 : Int), ()))
    (
    cond (decide (op_0 = (5 : Int)))
      (
      some ((2 : Int), ()))
      (
      cond (decide (op_0 = (6 : Int)))
        (
        some ((2 : Int), ()))
        (
        cond (decide (op_0 = (7 : Int)))
          (
          some ((2 : Int), ()))
          (
          cond (decide (op_0 = (12 : Int)))
            (
            some ((2 : Int), ()))
            (
            cond (decide (op_0 = (13 : Int)))
              (
              some ((2 : Int), ()))
              (
              cond (decide (op_0 = (16 : Int)))
                (
                some ((2 : Int), ()))
                (
                cond (decide (op_0 = (17 : Int)))
                  (
                  some ((2 : Int), ()))
                  (
                  Option.bind (F_lodgeref3_Known N op_0) fun y0 =>
                  cond (y0).1
                    (
                    some ((1 : Int), ()))
                    (
                    some ((0 : Int), ()))))))))))

abbrev c_lodgeref3_Ins (N : Nat) : CallSpec := ⟨40, ps_lodgeref3_Ins, rs_lodgeref3_Ins, fun x => F_lodgeref3_Ins N x.1⟩

theorem cs_lodgeref3_Ins_ok (S : Nat → Addr) (N : Nat) : CallsOK Go.Proofs.Tryd.prog E S (cs_lodgeref3_Ins N) :=
  .cons (F_lodgeref3_Known_ok S N) (.nil)
theorem F_lodgeref3_Ins_ok (S : Nat → Addr) (N : Nat) : ∀ x y, (c_lodgeref3_Ins N).g x = some y → FCon Go.Proofs.Tryd.prog E S 40 ps_lodgeref3_Ins rs_lodgeref3_Ins x y := by
  intro x y h
  exact fun_spec E_ok mixed (cs_lodgeref3_Ins_ok S N) (f := 40) (fi := ⟨b_lodgeref3_Ins, 15, Go.Proofs.Tryd.f40.results.toList⟩) (by kernel_rfl) (ls := []) (.nil) (by kernel_rfl) (ps := ps_lodgeref3_Ins) (rs := rs_lodgeref3_Ins) (Eq.trans (b := F_lodgeref3_Ins N x.1) (by kernel_rfl) h)

/-! lodge/lodgeref3.Args -/

abbrev ps_lodgeref3_Args : List Ty := [(.int .i64)]
abbrev rs_lodgeref3_Args : List Slot := [.data (.int .i64)]
abbrev cs_lodgeref3_Args (N : Nat) : List CallSpec := []
noncomputable abbrev b_lodgeref3_Args : Code := (Go.Proofs.Tryd.f41.body).getD .skip

def F_lodgeref3_Args (N : Nat) (op_0 : Int) : Option (Int × Unit) :=
  cond (decide (op_0 = (9 : Int)))
    (
    some ((2 : Int), ()))
    (
    cond (decide (op_0 = (12 : Int)))
      (
      some ((2 : Int), ()))
      (
      cond (decide (op_0 = (14 : Int)))
        (
        some ((2 : Int), ()))
        (
        cond (decide (op_0 = (15 : Int)))
          (
          some ((2 : Int), ()))
          (
          cond (decide (op_0 = (10 : Int)))
            (
            some ((3 : Int), ()))
            (
            cond (decide (op_0 = (13 : Int)))
              (
              some ((3 : Int), ()))
              (
              cond (decide (op_0 = (11 : Int)))
                (
                some ((1 : Int), ()))
                (
                some ((0 : Int), ()))))))))

abbrev c_lodgeref3_Args (N : Nat) : CallSpec := ⟨41, ps_lodgeref3_Args, rs_lodgeref3_Args, fun x => F_lodgeref3_Args N x.1⟩

theorem cs_lodgeref3_Args_ok (S : Nat → Addr) (N : Nat) : CallsOK Go.Proofs.Tryd.prog E S (cs_lodgeref3_Args N) :=
  .nil
theorem F_lodgeref3_Args_ok (S : Nat → Addr) (N : Nat) : ∀ x y, (c_lodgeref3_Args N).g x = some y → FCon Go.Proofs.Tryd.prog E S 41 ps_lodgeref3_Args rs_lodgeref3_Args x y := by
  intro x y h
  exact fun_spec E_ok mixed (cs_lodgeref3_Args_ok S N) (f := 41) (fi := ⟨b_lodgeref3_Args, 14, Go.Proofs.Tryd.f41.results.toList⟩) (by kernel_rfl) (ls := []) (.nil) (by kernel_rfl) (ps := ps_lodgeref3_Args) (rs := rs_lodgeref3_Args) (Eq.trans (b := F_lodgeref3_Args N x.1) (by kernel_rfl) h)

/-! lodge/lodgeref3.seen -/

abbrev ps_lodgeref3_seen : List Ty := [(.st (.pair (.sl (.int .i64)) .bool))]
abbrev rs_lodgeref3_seen : List Slot := [.ag [.sl (.int .i64), .d .bool], .data (.int .i64)]
abbrev cs_lodgeref3_seen (N : Nat) : List CallSpec := [c_lodgeref3_ValidDesc N, c_lodgeref_Desc N]
noncomputable abbrev b_lodgeref3_seen : Code := (Go.Proofs.Tryd.f47.body).getD .skip

def F_lodgeref3_seen (N : Nat) (d_0 : (List Int × Bool)) : Option ((List Int × (Bool × Unit)) × (Int × Unit)) :=
  Option.bind (F_lodgeref3_ValidDesc N d_0) fun y0 =>
  cond (decide (@Ne Int (y0).1 (0 : Int)))
    (
    some ((([] : List Int), (false, ())), y0))
    (
    Option.bind (F_lodgeref_Desc N d_0) fun y1 =>
    cond (decide ((List.length ((y1).1).1) = (List.length ((y1).1).1)))
      (
      some ((y1).1, ((0 : Int), ())))
      (
      none))

abbrev c_lodgeref3_seen (N : Nat) : CallSpec := ⟨47, ps_lodgeref3_seen, rs_lodgeref3_seen, fun x => F_lodgeref3_seen N x.1⟩

theorem cs_lodgeref3_seen_ok (S : Nat → Addr) (N : Nat) : CallsOK Go.Proofs.Tryd.prog E S (cs_lodgeref3_seen N) :=
  .cons (F_lodgeref3_ValidDesc_ok S N) (.cons (F_lodgeref_Desc_ok S N) (.nil))
theorem F_lodgeref3_seen_ok (S : Nat → Addr) (N : Nat) : ∀ x y, (c_lodgeref3_seen N).g x = some y → FCon Go.Proofs.Tryd.prog E S 47 ps_lodgeref3_seen rs_lodgeref3_seen x y := by
  intro x y h
  exact fun_spec E_ok mixed (cs_lodgeref3_seen_ok S N) (f := 47) (fi := ⟨b_lodgeref3_seen, 13, Go.Proofs.Tryd.f47.results.toList⟩) (by kernel_rfl) (ls := []) (.nil) (by kernel_rfl) (ps := ps_lodgeref3_seen) (rs := rs_lodgeref3_seen) (Eq.trans (b := F_lodgeref3_seen N x.1) (by kernel_rfl) h)

/-! lodge/lodgeref3.MatResult -/

abbrev ps_lodgeref3_MatResult : List Ty := [(.int .i64), (.int .i64), (.st (.pair (.sl (.int .i64)) .bool)), (.st (.pair (.sl (.int .i64)) .bool))]
abbrev rs_lodgeref3_MatResult : List Slot := [.ag [.sl (.int .i64), .d .bool], .data (.int .i64)]
abbrev cs_lodgeref3_MatResult (N : Nat) : List CallSpec := [c_lodgeref3_descs N, c_lodgeref3_narrow N, c_lodgeref3_seen N]
noncomputable abbrev b_lodgeref3_MatResult : Code := (Go.Proofs.Tryd.f42.body).getD .skip

def F_lodgeref3_MatResult (N : Nat) (za_0 : Int) (zb_1 : Int) (a_2 : (List Int × Bool)) (b_3 : (List Int × Bool)) : Option ((List Int × (Bool × Unit)) × (Int × Unit)) :=
  Option.bind (F_lodgeref3_descs N (a_2 :: (b_3 :: ([] : List ((List Int) × Bool))))) fun y0 =>
  cond (decide (@Ne Int (y0).1 (0 : Int)))
    (
    some ((([] : List Int), (false, ())), y0))
    (
    cond (decide (@Ne Int (Nat.cast (List.length (a_2).1) : Int) (2 : Int)))
      (
      some ((([] : List Int), (false, ())), ((101 : Int), ())))
      (
      cond (decide (@Ne Int (Nat.cast (List.length (b_3).1) : Int) (2 : Int)))
        (
        some ((([] : List Int), (false, ())), ((101 : Int), ())))
        (
        cond (a_2).2
          (
          some ((([] : List Int), (false, ())), ((101 : Int), ())))
          (
          cond (b_3).2
            (
            some ((([] : List Int), (false, ())), ((101 : Int), ())))
            (
            cond (decide (1 < (List.length (a_2).1)))
              (
              cond (decide (0 < (List.length (b_3).1)))
                (
                cond (decide (@Ne Int (List.getD (a_2).1 1 (0 : Int)) (List.getD (b_3).1 0 (0 : Int))))
                  (
                  some ((([] : List Int), (false, ())), ((101 : Int), ())))
                  (
                  Option.bind (F_lodgeref3_narrow N za_0) fun y1 =>
                  cond (Bool.not (y1).1)
                    (
                    some ((([] : List Int), (false, ())), ((102 : Int), ())))
                    (
                    Option.bind (F_lodgeref3_narrow N zb_1) fun y2 =>
                    cond (Bool.not (y2).1)
                      (
                      some ((([] : List Int), (false, ())), ((102 : Int), ())))
                      (
                      cond (decide (0 < (List.length (a_2).1)))
                        (
                        cond (decide (1 < (List.length (b_3).1)))
                          (
                          Option.bind (F_lodgeref3_seen N (((List.getD (a_2).1 0 (0 : Int)) :: ((List.getD (b_3).1 1 (0 : Int)) :: ([] : List Int))), true)) fun y3 =>
                          cond (decide ((List.length ((y3).1).1) = (List.length ((y3).1).1)))
                            (
                            some y3)
                            (
                            none))
                          (
                          none))
                        (
                        none)))))
                (
                none))
              (
              none))))))

abbrev c_lodgeref3_MatResult (N : Nat) : CallSpec := ⟨42, ps_lodgeref3_MatResult, rs_lodgeref3_MatResult, fun x => F_lodgeref3_MatResult N x.1 x.2.1 x.2.2.1 x.2.2.2.1⟩

theorem cs_lodgeref3_MatResult_ok (S : Nat → Addr) (N : Nat) : CallsOK Go.Proofs.Tryd.prog E S (cs_lodgeref3_MatResult N) :=
  .cons (F_lodgeref3_descs_ok S N) (.cons (F_lodgeref3_narrow_ok S N) (.cons (F_lodgeref3_seen_ok S N) (.nil)))
theorem F_lodgeref3_MatResult_ok (S : Nat → Addr) (N : Nat) : ∀ x y, (c_lodgeref3_MatResult N).g x = some y → FCon Go.Proofs.Tryd.prog E S 42 ps_lodgeref3_MatResult rs_lodgeref3_MatResult x y := by
  intro x y h
  exact fun_spec E_ok mixed (cs_lodgeref3_MatResult_ok S N) (f := 42) (fi := ⟨b_lodgeref3_MatResult, 71, Go.Proofs.Tryd.f42.results.toList⟩) (by kernel_rfl) (ls := []) (.nil) (by kernel_rfl) (ps := ps_lodgeref3_MatResult) (rs := rs_lodgeref3_MatResult) (Eq.trans (b := F_lodgeref3_MatResult N x.1 x.2.1 x.2.2.1 x.2.2.2.1) (by kernel_rfl) h)

/-! lodge/lodgeref3.ConvResult -/

abbrev ps_lodgeref3_ConvResult : List Ty := [(.sl (.int .i64)), (.st (.pair (.sl (.int .i64)) .bool)), (.st (.pair (.sl (.int .i64)) .bool))]
abbrev rs_lodgeref3_ConvResult : List Slot := [.ag [.sl (.int .i64), .d .bool], .data (.int .i64)]
abbrev cs_lodgeref3_ConvResult (N : Nat) : List CallSpec := [c_lodgeref3_descs N, c_lodgeref3_narrow N, c_lodgeref3_seen N]
noncomputable abbrev b_lodgeref3_ConvResult : Code := (Go.Proofs.Tryd.f43.body).getD .skip

abbrev j_lodgeref3_ConvResult : Joins := [(17, [(AX.normal, [.dead, .dead, .dead, .dead, .box [.d (.st (.pair (.sl (.int .i64)) .bool))], .box [.d (.st (.pair (.sl (.int .i64)) .bool))], .box [.sl (.int .i64), .d .bool], .dead, .dead, .data (.int .i64), .data (.int .i64), .dead, .dead, .dead, .dead, .dead, .dead, .dead, .dead, .dead, .dead, .dead, .dead, .dead, .dead, .dead, .dead, .dead, .dead, .dead, .dead, .dead, .dead, .dead, .dead, .dead, .dead, .dead, .dead, .dead, .dead, .dead, .dead, .dead, .dead, .dead, .dead, .dead, .dead, .dead, .dead, .dead, .dead, .dead, .dead, .dead, .dead, .dead, .dead, .dead, .dead, .dead, .dead, .dead, .dead, .dead, .dead, .dead, .dead, .dead, .dead, .dead, .dead, .dead, .dead, .dead, .dead, .dead, .dead, .dead, .dead, .dead, .dead, .dead, .dead, .dead, .dead, .dead, .dead, .dead, .dead, .dead, .dead, .dead, .dead, .dead, .dead, .dead, .dead, .dead, .dead, .dead, .dead, .dead, .dead, .dead, .dead, .dead, .data .bool, .dead, .dead, .dead, .dead, .dead, .dead, .dead, .dead, .dead, .dead, .dead, .dead, .dead, .dead, .dead, .dead, .dead, .dead, .dead, .dead, .dead, .dead, .dead, .dead, .dead, .dead, .dead, .dead, .dead, .dead, .dead, .dead, .dead, .dead, .dead, .dead, .dead, .dead, .dead, .dead, .dead, .dead])]),
  (14, [(AX.normal, [.dead, .dead, .dead, .dead, .box [.d (.st (.pair (.sl (.int .i64)) .bool))], .box [.d (.st (.pair (.sl (.int .i64)) .bool))], .box [.sl (.int .i64), .d .bool], .dead, .dead, .data (.int .i64), .data (.int .i64), .dead, .dead, .dead, .dead, .dead, .dead, .dead, .dead, .dead, .dead, .dead, .dead, .dead, .dead, .dead, .dead, .dead, .dead, .dead, .dead, .dead, .dead, .dead, .dead, .dead, .dead, .dead, .dead, .dead, .dead, .dead, .dead, .dead, .dead, .dead, .dead, .dead, .dead, .dead, .dead, .dead, .dead, .dead, .dead, .dead, .dead, .dead, .dead, .dead, .dead, .dead, .dead, .dead, .dead, .dead, .dead, .dead, .dead, .dead, .dead, .dead, .dead, .dead, .dead, .dead, .dead, .dead, .dead, .dead, .dead, .data .bool, .dead, .dead, .dead, .dead, .dead, .dead, .dead, .dead, .dead, .dead, .dead, .dead, .dead, .dead, .dead, .dead, .dead, .dead, .dead, .dead, .dead, .dead, .dead, .dead, .dead, .dead, .dead, .dead, .dead, .dead, .dead, .dead, .dead, .dead, .dead, .dead, .dead, .dead, .dead, .dead, .dead, .dead, .dead, .dead, .dead, .dead, .dead, .dead, .dead, .dead, .dead, .dead, .dead, .dead, .dead, .dead, .dead, .dead, .dead, .dead, .dead, .dead, .dead, .dead, .dead, .dead, .dead, .dead, .dead])]),
  (9, [(AX.normal, [.data (.sl (.int .i64)), .dead, .dead, .dead, .box [.d (.st (.pair (.sl (.int .i64)) .bool))], .box [.d (.st (.pair (.sl (.int .i64)) .bool))], .box [.sl (.int .i64), .d .bool], .dead, .dead, .dead, .dead, .dead, .dead, .dead, .dead, .dead, .dead, .dead, .dead, .dead, .dead, .dead, .dead, .dead, .dead, .dead, .dead, .dead, .dead, .dead, .dead, .dead, .dead, .dead, .dead, .dead, .dead, .dead, .dead, .dead, .dead, .dead, .dead, .dead, .dead, .dead, .dead, .dead, .dead, .dead, .dead, .dead, .dead, .data .bool, .dead, .dead, .dead, .dead, .dead, .dead, .dead, .dead, .dead, .dead, .dead, .dead, .dead, .dead, .dead, .dead, .dead, .dead, .dead, .dead, .dead, .dead, .dead, .dead, .dead, .dead, .dead, .dead, .dead, .dead, .dead, .dead, .dead, .dead, .dead, .dead, .dead, .dead, .dead, .dead, .dead, .dead, .dead, .dead, .dead, .dead, .dead, .dead, .dead, .dead, .dead, .dead, .dead, .dead, .dead, .dead, .dead, .dead, .dead, .dead, .dead, .dead, .dead, .dead, .dead, .dead, .dead, .dead, .dead, .dead, .dead, .dead, .dead, .dead, .dead, .dead, .dead, .dead, .dead, .dead, .dead, .dead, .dead, .dead, .dead, .dead, .dead, .dead, .dead, .dead, .dead, .dead, .dead, .dead, .dead, .dead, .dead])])]
def F_lodgeref3_ConvResult (N : Nat) (args_0 : List Int) (a_1 : (List Int × Bool)) (k_2 : (List Int × Bool)) : Option ((List Int × (Bool × Unit)) × (Int × Unit)) :=
  cond (decide (@Ne Int (Nat.cast (List.length args_0) : Int) (3 : Int)))
    (
    some ((([] : List Int), (false, ())), ((101 : Int), ())))
    (
    Option.bind (F_lodgeref3_descs N (a_1 :: (k_2 :: ([] : List ((List Int) × Bool))))) fun y0 =>
    cond (decide (@Ne Int (y0).1 (0 : Int)))
      (
      some ((([] : List Int), (false, ())), y0))
      (
      Option.bind (
          cond (decide (@Ne Int (Nat.cast (List.length (a_1).1) : Int) (3 : Int)))
            (
            some (args_0, ((a_1, ()), ((k_2, ()), ((([] : List Int), (false, ())), (true, ()))))))
            (
            cond (decide (@Ne Int (Nat.cast (List.length (k_2).1) : Int) (4 : Int)))
              (
              some (args_0, ((a_1, ()), ((k_2, ()), ((([] : List Int), (false, ())), (true, ()))))))
              (
              cond (a_1).2
                (
                some (args_0, ((a_1, ()), ((k_2, ()), ((([] : List Int), (false, ())), (true, ()))))))
                (
                cond (k_2).2
                  (
                  some (args_0, ((a_1, ()), ((k_2, ()), ((([] : List Int), (false, ())), (true, ()))))))
                  (
                  cond (decide (2 < (List.length (a_1).1)))
                    (
                    cond (decide (2 < (List.length (k_2).1)))
                      (
                      some (args_0, ((a_1, ()), ((k_2, ()), ((([] : List Int), (false, ())), ((decide (@Ne Int (List.getD (a_1).1 2 (0 : Int)) (List.getD (k_2).1 2 (0 : Int)))), ()))))))
                      (
                      none))
                    (
                    none)))))) fun y1 =>
      cond (((((y1).2).2).2).2).1
        (
        some ((([] : List Int), (false, ())), ((101 : Int), ())))
        (
        cond (decide (0 < (List.length (y1).1)))
          (
          cond (decide (1 < (List.length (y1).1)))
            (
            Option.bind (
                cond (decide ((List.getD (y1).1 0 (0 : Int)) < (1 : Int)))
                  (
                  cond (decide ((List.length (((((y1).2).2).2).1).1) = (List.length (((((y1).2).2).2).1).1)))
                    (
                    some (((y1).2).1, ((((y1).2).2).1, (((((y1).2).2).2).1, ((List.getD (y1).1 0 (0 : Int)), ((List.getD (y1).1 1 (0 : Int)), (true, ())))))))
                    (
                    none))
                  (
                  cond (decide ((16 : Int) < (List.getD (y1).1 0 (0 : Int))))
                    (
                    cond (decide ((List.length (((((y1).2).2).2).1).1) = (List.length (((((y1).2).2).2).1).1)))
                      (
                      some (((y1).2).1, ((((y1).2).2).1, (((((y1).2).2).2).1, ((List.getD (y1).1 0 (0 : Int)), ((List.getD (y1).1 1 (0 : Int)), (true, ())))))))
                      (
                      none))
                    (
                    cond (decide ((List.getD (y1).1 1 (0 : Int)) < (0 : Int)))
                      (
                      cond (decide ((List.length (((((y1).2).2).2).1).1) = (List.length (((((y1).2).2).2).1).1)))
                        (
                        some (((y1).2).1, ((((y1).2).2).1, (((((y1).2).2).2).1, ((List.getD (y1).1 0 (0 : Int)), ((List.getD (y1).1 1 (0 : Int)), (true, ())))))))
                        (
                        none))
                      (
                      cond (decide ((15 : Int) < (List.getD (y1).1 1 (0 : Int))))
                        (
                        cond (decide ((List.length (((((y1).2).2).2).1).1) = (List.length (((((y1).2).2).2).1).1)))
                          (
                          some (((y1).2).1, ((((y1).2).2).1, (((((y1).2).2).2).1, ((List.getD (y1).1 0 (0 : Int)), ((List.getD (y1).1 1 (0 : Int)), (true, ())))))))
                          (
                          none))
                        (
                        cond (decide (2 < (List.length (y1).1)))
                          (
                          Option.bind (F_lodgeref3_narrow N (List.getD (y1).1 2 (0 : Int))) fun y2 =>
                          cond (decide ((List.length (((((y1).2).2).2).1).1) = (List.length (((((y1).2).2).2).1).1)))
                            (
                            some (((y1).2).1, ((((y1).2).2).1, (((((y1).2).2).2).1, ((List.getD (y1).1 0 (0 : Int)), ((List.getD (y1).1 1 (0 : Int)), ((Bool.not (y2).1), ())))))))
                            (
                            none))
                          (
                          none)))))) fun y3 =>
            cond ((((((y3).2).2).2).2).2).1
              (
              some ((([] : List Int), (false, ())), ((102 : Int), ())))
              (
              Option.bind (
                  cond (decide (0 < (List.length ((((y3).2).1).1).1)))
                    (
                    cond (decide (0 < (List.length (((y3).1).1).1)))
                      (
                      cond (decide ((wi64 ((List.getD (((y3).1).1).1 0 (0 : Int)) + (wi64 ((2 : Int) * (((((y3).2).2).2).2).1)))) < (List.getD ((((y3).2).1).1).1 0 (0 : Int))))
                        (
                        cond (decide ((List.length ((((y3).2).2).1).1) = (List.length ((((y3).2).2).1).1)))
                          (
                          some ((y3).1, (((y3).2).1, ((((y3).2).2).1, (((((y3).2).2).2).1, ((((((y3).2).2).2).2).1, (true, ())))))))
                          (
                          none))
                        (
                        cond (decide (1 < (List.length ((((y3).2).1).1).1)))
                          (
                          cond (decide (1 < (List.length (((y3).1).1).1)))
                            (
                            cond (decide ((List.length ((((y3).2).2).1).1) = (List.length ((((y3).2).2).1).1)))
                              (
                              some ((y3).1, (((y3).2).1, ((((y3).2).2).1, (((((y3).2).2).2).1, ((((((y3).2).2).2).2).1, ((decide ((wi64 ((List.getD (((y3).1).1).1 1 (0 : Int)) + (wi64 ((2 : Int) * (((((y3).2).2).2).2).1)))) < (List.getD ((((y3).2).1).1).1 1 (0 : Int)))), ())))))))
                              (
                              none))
                            (
                            none))
                          (
                          none)))
                      (
                      none))
                    (
                    none)) fun y4 =>
              cond ((((((y4).2).2).2).2).2).1
                (
                some ((([] : List Int), (false, ())), ((101 : Int), ())))
                (
                cond (decide (0 < (List.length (((y4).1).1).1)))
                  (
                  cond (decide (0 < (List.length ((((y4).2).1).1).1)))
                    (
                    cond (decide (@Ne Int ((((y4).2).2).2).1 (0 : Int)))
                      (
                      cond (decide (1 < (List.length (((y4).1).1).1)))
                        (
                        cond (decide (1 < (List.length ((((y4).2).1).1).1)))
                          (
                          cond (decide (@Ne Int ((((y4).2).2).2).1 (0 : Int)))
                            (
                            cond (decide (3 < (List.length ((((y4).2).1).1).1)))
                              (
                              Option.bind (F_lodgeref3_seen N (((wi64 ((wi64 (Int.tdiv (wi64 ((wi64 ((List.getD (((y4).1).1).1 0 (0 : Int)) + (wi64 ((2 : Int) * (((((y4).2).2).2).2).1)))) - (List.getD ((((y4).2).1).1).1 0 (0 : Int)))) ((((y4).2).2).2).1)) + (1 : Int))) :: ((wi64 ((wi64 (Int.tdiv (wi64 ((wi64 ((List.getD (((y4).1).1).1 1 (0 : Int)) + (wi64 ((2 : Int) * (((((y4).2).2).2).2).1)))) - (List.getD ((((y4).2).1).1).1 1 (0 : Int)))) ((((y4).2).2).2).1)) + (1 : Int))) :: ((List.getD ((((y4).2).1).1).1 3 (0 : Int)) :: ([] : List Int)))), true)) fun y5 =>
                              cond (decide ((List.length ((y5).1).1) = (List.length ((y5).1).1)))
                                (
                                some y5)
                                (
                                none))
                              (
                              none))
                            (
                            none))
                          (
                          none))
                        (
                        none))
                      (
                      none))
                    (
                    none))
                  (
                  none))))
            (
            none))
          (
          none))))

abbrev c_lodgeref3_ConvResult (N : Nat) : CallSpec := ⟨43, ps_lodgeref3_ConvResult, rs_lodgeref3_ConvResult, fun x => F_lodgeref3_ConvResult N x.1 x.2.1 x.2.2.1⟩

theorem cs_lodgeref3_ConvResult_ok (S : Nat → Addr) (N : Nat) : CallsOK Go.Proofs.Tryd.prog E S (cs_lodgeref3_ConvResult N) :=
  .cons (F_lodgeref3_descs_ok S N) (.cons (F_lodgeref3_narrow_ok S N) (.cons (F_lodgeref3_seen_ok S N) (.nil)))
theorem F_lodgeref3_ConvResult_ok (S : Nat → Addr) (N : Nat) : ∀ x y, (c_lodgeref3_ConvResult N).g x = some y → FCon Go.Proofs.Tryd.prog E S 43 ps_lodgeref3_ConvResult rs_lodgeref3_ConvResult x y := by
  intro x y h
  exact fun_specJ E_ok mixed (cs_lodgeref3_ConvResult_ok S N) (f := 43) (fi := ⟨b_lodgeref3_ConvResult, 151, Go.Proofs.Tryd.f43.results.toList⟩) (by kernel_rfl) (ls := []) (.nil) (js := j_lodgeref3_ConvResult) (by kernel_rfl) (ps := ps_lodgeref3_ConvResult) (rs := rs_lodgeref3_ConvResult) (Eq.trans (b := F_lodgeref3_ConvResult N x.1 x.2.1 x.2.2.1) (by kernel_rfl) h)

/-! lodge/lodgeref3.PoolResult -/

abbrev ps_lodgeref3_PoolResult : List Ty := [(.sl (.int .i64)), (.st (.pair (.sl (.int .i64)) .bool))]
abbrev rs_lodgeref3_PoolResult : List Slot := [.ag [.sl (.int .i64), .d .bool], .data (.int .i64)]
abbrev cs_lodgeref3_PoolResult (N : Nat) : List CallSpec := [c_lodgeref3_ValidDesc N, c_lodgeref3_seen N]
noncomputable abbrev b_lodgeref3_PoolResult : Code := (Go.Proofs.Tryd.f44.body).getD .skip

def F_lodgeref3_PoolResult (N : Nat) (args_0 : List Int) (a_1 : (List Int × Bool)) : Option ((List Int × (Bool × Unit)) × (Int × Unit)) :=
  cond (decide (@Ne Int (Nat.cast (List.length args_0) : Int) (2 : Int)))
    (
    some ((([] : List Int), (false, ())), ((101 : Int), ())))
    (
    Option.bind (F_lodgeref3_ValidDesc N a_1) fun y0 =>
    cond (decide (@Ne Int (y0).1 (0 : Int)))
      (
      some ((([] : List Int), (false, ())), y0))
      (
      cond (decide (@Ne Int (Nat.cast (List.length (a_1).1) : Int) (3 : Int)))
        (
        some ((([] : List Int), (false, ())), ((101 : Int), ())))
        (
        cond (decide (0 < (List.length args_0)))
          (
          cond (decide (1 < (List.length args_0)))
            (
            cond (decide ((List.getD args_0 0 (0 : Int)) < (1 : Int)))
              (
              some ((([] : List Int), (false, ())), ((102 : Int), ())))
              (
              cond (decide ((16 : Int) < (List.getD args_0 0 (0 : Int))))
                (
                some ((([] : List Int), (false, ())), ((102 : Int), ())))
                (
                cond (decide ((List.getD args_0 1 (0 : Int)) < (1 : Int)))
                  (
                  some ((([] : List Int), (false, ())), ((102 : Int), ())))
                  (
                  cond (decide ((16 : Int) < (List.getD args_0 1 (0 : Int))))
                    (
                    some ((([] : List Int), (false, ())), ((102 : Int), ())))
                    (
                    cond (decide (0 < (List.length (a_1).1)))
                      (
                      cond (decide ((List.getD (a_1).1 0 (0 : Int)) < (List.getD args_0 0 (0 : Int))))
                        (
                        some ((([] : List Int), (false, ())), ((101 : Int), ())))
                        (
                        cond (decide (1 < (List.length (a_1).1)))
                          (
                          cond (decide ((List.getD (a_1).1 1 (0 : Int)) < (List.getD args_0 0 (0 : Int))))
                            (
                            some ((([] : List Int), (false, ())), ((101 : Int), ())))
                            (
                            cond (decide (0 < (List.length (a_1).1)))
                              (
                              cond (decide (@Ne Int (List.getD args_0 1 (0 : Int)) (0 : Int)))
                                (
                                cond (decide (1 < (List.length (a_1).1)))
                                  (
                                  cond (decide (@Ne Int (List.getD args_0 1 (0 : Int)) (0 : Int)))
                                    (
                                    cond (decide (2 < (List.length (a_1).1)))
                                      (
                                      Option.bind (F_lodgeref3_seen N (((wi64 ((wi64 (Int.tdiv (wi64 ((List.getD (a_1).1 0 (0 : Int)) - (List.getD args_0 0 (0 : Int)))) (List.getD args_0 1 (0 : Int)))) + (1 : Int))) :: ((wi64 ((wi64 (Int.tdiv (wi64 ((List.getD (a_1).1 1 (0 : Int)) - (List.getD args_0 0 (0 : Int)))) (List.getD args_0 1 (0 : Int)))) + (1 : Int))) :: ((List.getD (a_1).1 2 (0 : Int)) :: ([] : List Int)))), (a_1).2)) fun y1 =>
                                      cond (decide ((List.length ((y1).1).1) = (List.length ((y1).1).1)))
                                        (
                                        some y1)
                                        (
                                        none))
                                      (
                                      none))
                                    (
                                    none))
                                  (
                                  none))
                                (
                                none))
                              (
                              none)))
                          (
                          none)))
                      (
                      none))))))
            (
            none))
          (
          none))))

abbrev c_lodgeref3_PoolResult (N : Nat) : CallSpec := ⟨44, ps_lodgeref3_PoolResult, rs_lodgeref3_PoolResult, fun x => F_lodgeref3_PoolResult N x.1 x.2.1⟩

theorem cs_lodgeref3_PoolResult_ok (S : Nat → Addr) (N : Nat) : CallsOK Go.Proofs.Tryd.prog E S (cs_lodgeref3_PoolResult N) :=
  .cons (F_lodgeref3_ValidDesc_ok S N) (.cons (F_lodgeref3_seen_ok S N) (.nil))
theorem F_lodgeref3_PoolResult_ok (S : Nat → Addr) (N : Nat) : ∀ x y, (c_lodgeref3_PoolResult N).g x = some y → FCon Go.Proofs.Tryd.prog E S 44 ps_lodgeref3_PoolResult rs_lodgeref3_PoolResult x y := by
  intro x y h
  exact fun_spec E_ok mixed (cs_lodgeref3_PoolResult_ok S N) (f := 44) (fi := ⟨b_lodgeref3_PoolResult, 89, Go.Proofs.Tryd.f44.results.toList⟩) (by kernel_rfl) (ls := []) (.nil) (by kernel_rfl) (ps := ps_lodgeref3_PoolResult) (rs := rs_lodgeref3_PoolResult) (Eq.trans (b := F_lodgeref3_PoolResult N x.1 x.2.1) (by kernel_rfl) h)

/-! lodge/lodgeref3.SoftResult -/

abbrev ps_lodgeref3_SoftResult : List Ty := [(.int .i64), (.sl (.st (.pair (.sl (.int .i64)) .bool)))]
abbrev rs_lodgeref3_SoftResult : List Slot := [.ag [.sl (.int .i64), .d .bool], .data (.int .i64)]
abbrev cs_lodgeref3_SoftResult (N : Nat) : List CallSpec := [c_lodgeref_SameDesc N, c_lodgeref3_descs N, c_lodgeref3_seen N]
noncomputable abbrev b_lodgeref3_SoftResult : Code := (Go.Proofs.Tryd.f45.body).getD .skip

abbrev j_lodgeref3_SoftResult : Joins := [(22, [(AX.normal, [.dead, .dead, .dead, .dead, .box [.sl (.int .i64), .d .bool], .dead, .dead, .dead, .box [.d (.st (.pair (.sl (.int .i64)) .bool))], .dead, .dead, .dead, .dead, .dead, .dead, .dead, .dead, .dead, .dead, .dead, .dead, .dead, .dead, .dead, .dead, .dead, .dead, .dead, .dead, .dead, .dead, .dead, .dead, .dead, .dead, .dead, .dead, .dead, .dead, .dead, .dead, .dead, .dead, .dead, .dead, .dead, .dead, .dead, .dead, .dead, .dead, .dead, .data .bool, .dead, .dead, .dead, .dead, .dead, .dead, .dead, .dead, .dead, .dead, .dead, .dead, .dead, .dead, .dead, .dead, .dead, .dead, .dead, .dead, .dead, .dead, .dead, .dead, .dead, .dead, .dead, .dead, .dead, .dead, .dead, .dead, .dead, .dead, .dead, .dead, .dead, .dead, .dead, .dead, .dead, .dead, .dead, .dead, .dead, .dead, .dead, .dead, .dead, .dead, .dead, .dead, .dead, .dead])]),
  (27, [(AX.normal, [.dead, .data (.sl (.st (.pair (.sl (.int .i64)) .bool))), .dead, .dead, .box [.sl (.int .i64), .d .bool], .dead, .dead, .dead, .box [.d (.st (.pair (.sl (.int .i64)) .bool))], .dead, .dead, .dead, .dead, .dead, .dead, .dead, .dead, .dead, .dead, .dead, .dead, .dead, .dead, .dead, .dead, .dead, .dead, .dead, .dead, .dead, .dead, .dead, .dead, .dead, .dead, .dead, .dead, .dead, .dead, .dead, .dead, .dead, .dead, .dead, .dead, .dead, .dead, .dead, .dead, .dead, .dead, .dead, .dead, .dead, .dead, .dead, .dead, .dead, .dead, .dead, .dead, .dead, .dead, .dead, .dead, .dead, .dead, .dead, .dead, .dead, .dead, .dead, .dead, .dead, .dead, .dead, .data .bool, .dead, .dead, .dead, .dead, .dead, .dead, .dead, .dead, .dead, .dead, .dead, .dead, .dead, .dead, .dead, .dead, .dead, .dead, .dead, .dead, .dead, .dead, .dead, .dead, .dead, .dead, .dead, .dead, .dead, .dead])]),
  (2, [(AX.ret, [.dead, .dead, .dead, .dead, .box [.sl (.int .i64), .d .bool], .data (.int .i64), .dead, .dead, .dead, .dead, .dead, .dead, .dead, .dead, .dead, .dead, .dead, .dead, .dead, .dead, .dead, .dead, .dead, .dead, .dead, .dead, .dead, .dead, .dead, .dead, .dead, .dead, .dead, .dead, .dead, .dead, .dead, .dead, .dead, .dead, .dead, .dead, .dead, .dead, .dead, .dead, .dead, .dead, .dead, .dead, .dead, .dead, .dead, .dead, .dead, .dead, .dead, .dead, .dead, .dead, .dead, .dead, .dead, .dead, .dead, .dead, .dead, .dead, .dead, .dead, .dead, .dead, .dead, .dead, .dead, .dead, .dead, .dead, .dead, .dead, .dead, .dead, .dead, .dead, .dead, .dead, .dead, .dead, .dead, .dead, .dead, .dead, .dead, .dead, .dead, .dead, .dead, .dead, .dead, .dead, .dead, .dead, .dead, .dead, .dead, .dead, .dead]), (AX.normal, [.data (.int .i64), .data (.sl (.st (.pair (.sl (.int .i64)) .bool))), .dead, .dead, .box [.sl (.int .i64), .d .bool], .dead, .data (.int .i64), .dead, .dead, .dead, .dead, .dead, .dead, .dead, .dead, .dead, .dead, .dead, .dead, .dead, .dead, .dead, .dead, .dead, .dead, .dead, .dead, .dead, .dead, .dead, .dead, .dead, .dead, .dead, .dead, .dead, .dead, .dead, .dead, .dead, .dead, .dead, .dead, .dead, .dead, .dead, .dead, .dead, .dead, .dead, .dead, .dead, .dead, .dead, .dead, .dead, .dead, .dead, .dead, .dead, .dead, .dead, .dead, .dead, .dead, .dead, .dead, .dead, .dead, .dead, .dead, .dead, .dead, .dead, .dead, .dead, .dead, .dead, .dead, .dead, .dead, .dead, .dead, .dead, .dead, .dead, .dead, .dead, .dead, .dead, .dead, .dead, .dead, .dead, .dead, .dead, .dead, .dead, .dead, .dead, .dead, .dead, .dead, .dead, .dead, .dead, .dead])]),
  (6, [(AX.normal, [.data (.int .i64), .data (.sl (.st (.pair (.sl (.int .i64)) .bool))), .dead, .dead, .box [.sl (.int .i64), .d .bool], .dead, .data (.int .i64), .dead, .dead, .dead, .dead, .dead, .dead, .dead, .dead, .data .bool, .dead, .dead, .dead, .dead, .dead, .dead, .dead, .dead, .dead, .dead, .dead, .dead, .dead, .dead, .dead, .dead, .dead, .dead, .dead, .dead, .dead, .dead, .dead, .dead, .dead, .dead, .dead, .dead, .dead, .dead, .dead, .dead, .dead, .dead, .dead, .dead, .dead, .dead, .dead, .dead, .dead, .dead, .dead, .dead, .dead, .dead, .dead, .dead, .dead, .dead, .dead, .dead, .dead, .dead, .dead, .dead, .dead, .dead, .dead, .dead, .dead, .dead, .dead, .dead, .dead, .dead, .dead, .dead, .dead, .dead, .dead, .dead, .dead, .dead, .dead, .dead, .dead, .dead, .dead, .dead, .dead, .dead, .dead, .dead, .dead, .dead, .dead, .dead, .dead, .dead, .dead])]),
  (4, [(AX.normal, [.data (.int .i64), .data (.sl (.st (.pair (.sl (.int .i64)) .bool))), .dead, .dead, .box [.sl (.int .i64), .d .bool], .dead, .data (.int .i64), .dead, .dead, .dead, .data (.int .i64), .dead, .data .bool, .dead, .dead, .dead, .dead, .dead, .dead, .dead, .dead, .dead, .dead, .dead, .dead, .dead, .dead, .dead, .dead, .dead, .dead, .dead, .dead, .dead, .dead, .dead, .dead, .dead, .dead, .dead, .dead, .dead, .dead, .dead, .dead, .dead, .dead, .dead, .dead, .dead, .dead, .dead, .dead, .dead, .dead, .dead, .dead, .dead, .dead, .dead, .dead, .dead, .dead, .dead, .dead, .dead, .dead, .dead, .dead, .dead, .dead, .dead, .dead, .dead, .dead, .dead, .dead, .dead, .dead, .dead, .dead, .dead, .dead, .dead, .dead, .dead, .dead, .dead, .dead, .dead, .dead, .dead, .dead, .dead, .dead, .dead, .dead, .dead, .dead, .dead, .dead, .dead, .dead, .dead, .dead, .dead, .dead])])]
def F_lodgeref3_SoftResult (N : Nat) (op_0 : Int) (ins_1 : List ((List Int × Bool))) : Option ((List Int × (Bool × Unit)) × (Int × Unit)) :=
  Option.bind (
      Option.bind (
          cond (decide (op_0 = (16 : Int)))
            (
            some (op_0, (ins_1, ((([] : List Int), (false, ())), ((1 : Int), (op_0, (true, ())))))))
            (
            some (op_0, (ins_1, ((([] : List Int), (false, ())), ((1 : Int), (op_0, ((decide (op_0 = (17 : Int))), ())))))))) fun y0 =>
      cond ((((((y0).2).2).2).2).2).1
        (
        cond (decide ((List.length ((((y0).2).2).1).1) = (List.length ((((y0).2).2).1).1)))
          (
          some (Sum.inr ((y0).1, (((y0).2).1, ((((y0).2).2).1, ((2 : Int), ()))))))
          (
          none))
        (
        Option.bind (
            cond (decide ((((((y0).2).2).2).2).1 = (19 : Int)))
              (
              cond (decide ((List.length ((((y0).2).2).1).1) = (List.length ((((y0).2).2).1).1)))
                (
                some ((y0).1, (((y0).2).1, ((((y0).2).2).1, (((((y0).2).2).2).1, (true, ()))))))
                (
                none))
              (
              cond (decide ((List.length ((((y0).2).2).1).1) = (List.length ((((y0).2).2).1).1)))
                (
                some ((y0).1, (((y0).2).1, ((((y0).2).2).1, (((((y0).2).2).2).1, ((decide ((((((y0).2).2).2).2).1 = (20 : Int))), ()))))))
                (
                none))) fun y1 =>
        cond (((((y1).2).2).2).2).1
          (
          cond (decide ((List.length ((((y1).2).2).1).1) = (List.length ((((y1).2).2).1).1)))
            (
            some (Sum.inr ((y1).1, (((y1).2).1, ((((y1).2).2).1, (((((y1).2).2).2).1, ()))))))
            (
            none))
          (
          some (Sum.inl ((([] : List Int), (false, ())), ((103 : Int), ())))))) fun y2 =>
  Sum.elim (fun y3 =>
    cond (decide ((List.length ((y3).1).1) = (List.length ((y3).1).1)))
      (
      some y3)
      (
      none))
    (fun y4 =>
    cond (decide (@Ne Int (Nat.cast (List.length ((y4).2).1) : Int) ((((y4).2).2).2).1))
      (
      some ((([] : List Int), (false, ())), ((101 : Int), ())))
      (
      Option.bind (F_lodgeref3_descs N ((y4).2).1) fun y5 =>
      cond (decide (@Ne Int (y5).1 (0 : Int)))
        (
        some ((([] : List Int), (false, ())), y5))
        (
        cond (decide (0 < (List.length ((y4).2).1)))
          (
          cond (decide ((y4).1 = (16 : Int)))
            (
            Option.bind (
                cond ((List.getD ((y4).2).1 0 (([] : List Int), false))).2
                  (
                  cond (decide ((List.length ((((y4).2).2).1).1) = (List.length ((((y4).2).2).1).1)))
                    (
                    some ((((y4).2).2).1, (((List.getD ((y4).2).1 0 (([] : List Int), false)), ()), (true, ()))))
                    (
                    none))
                  (
                  cond (decide ((Nat.cast (List.length ((List.getD ((y4).2).1 0 (([] : List Int), false))).1) : Int) < (1 : Int)))
                    (
                    cond (decide ((List.length ((((y4).2).2).1).1) = (List.length ((((y4).2).2).1).1)))
                      (
                      some ((((y4).2).2).1, (((List.getD ((y4).2).1 0 (([] : List Int), false)), ()), (true, ()))))
                      (
                      none))
                    (
                    cond (decide (1 < (List.length ((y4).2).1)))
                      (
                      Option.bind (F_lodgeref_SameDesc N (List.getD ((y4).2).1 1 (([] : List Int), false)) (((256 : Int) :: ([] : List Int)), true)) fun y6 =>
                      cond (decide ((List.length ((((y4).2).2).1).1) = (List.length ((((y4).2).2).1).1)))
                        (
                        some ((((y4).2).2).1, (((List.getD ((y4).2).1 0 (([] : List Int), false)), ()), ((Bool.not (y6).1), ()))))
                        (
                        none))
                      (
                      none)))) fun y7 =>
            cond (((y7).2).2).1
              (
              some ((([] : List Int), (false, ())), ((101 : Int), ())))
              (
              Option.bind (F_lodgeref3_seen N (((y7).2).1).1) fun y8 =>
              cond (decide ((List.length ((y8).1).1) = (List.length ((y8).1).1)))
                (
                some y8)
                (
                none)))
            (
            cond (decide ((y4).1 = (17 : Int)))
              (
              Option.bind (
                  cond (decide (@Ne Int (Nat.cast (List.length ((List.getD ((y4).2).1 0 (([] : List Int), false))).1) : Int) (2 : Int)))
                    (
                    cond (decide ((List.length ((((y4).2).2).1).1) = (List.length ((((y4).2).2).1).1)))
                      (
                      some (((y4).2).1, ((((y4).2).2).1, (((List.getD ((y4).2).1 0 (([] : List Int), false)), ()), (true, ())))))
                      (
                      none))
                    (
                    cond (decide (1 < (List.length ((y4).2).1)))
                      (
                      cond (decide (@Ne Int (Nat.cast (List.length ((List.getD ((y4).2).1 1 (([] : List Int), false))).1) : Int) (1 : Int)))
                        (
                        cond (decide ((List.length ((((y4).2).2).1).1) = (List.length ((((y4).2).2).1).1)))
                          (
                          some (((y4).2).1, ((((y4).2).2).1, (((List.getD ((y4).2).1 0 (([] : List Int), false)), ()), (true, ())))))
                          (
                          none))
                        (
                        cond (decide (1 < (List.length ((y4).2).1)))
                          (
                          cond (decide ((List.length ((((y4).2).2).1).1) = (List.length ((((y4).2).2).1).1)))
                            (
                            some (((y4).2).1, ((((y4).2).2).1, (((List.getD ((y4).2).1 0 (([] : List Int), false)), ()), ((Bool.not ((List.getD ((y4).2).1 1 (([] : List Int), false))).2), ())))))
                            (
                            none))
                          (
                          none)))
                      (
                      none))) fun y9 =>
              cond ((((y9).2).2).2).1
                (
                some ((([] : List Int), (false, ())), ((101 : Int), ())))
                (
                cond (decide (1 < (List.length (y9).1)))
                  (
                  cond (decide (0 < (List.length ((List.getD (y9).1 1 (([] : List Int), false))).1)))
                    (
                    cond (decide (1 < (List.length (((((y9).2).2).1).1).1)))
                      (
                      Option.bind (F_lodgeref3_seen N (((List.getD ((List.getD (y9).1 1 (([] : List Int), false))).1 0 (0 : Int)) :: ((List.getD (((((y9).2).2).1).1).1 1 (0 : Int)) :: ([] : List Int))), (((((y9).2).2).1).1).2)) fun y10 =>
                      cond (decide ((List.length ((y10).1).1) = (List.length ((y10).1).1)))
                        (
                        some y10)
                        (
                        none))
                      (
                      none))
                    (
                    none))
                  (
                  none)))
              (
              cond (decide ((Nat.cast (List.length ((List.getD ((y4).2).1 0 (([] : List Int), false))).1) : Int) < (1 : Int)))
                (
                some ((([] : List Int), (false, ())), ((101 : Int), ())))
                (
                cond (decide ((0 : Int) ≤ (wi64 ((Nat.cast (List.length ((List.getD ((y4).2).1 0 (([] : List Int), false))).1) : Int) - (1 : Int)))))
                  (
                  cond (decide ((Int.toNat (wi64 ((Nat.cast (List.length ((List.getD ((y4).2).1 0 (([] : List Int), false))).1) : Int) - (1 : Int)))) ≤ (List.length ((List.getD ((y4).2).1 0 (([] : List Int), false))).1)))
                    (
                    Option.bind (F_lodgeref3_seen N ((List.take ((Int.toNat (wi64 ((Nat.cast (List.length ((List.getD ((y4).2).1 0 (([] : List Int), false))).1) : Int) - (1 : Int)))) - (0 : Nat)) ((List.getD ((y4).2).1 0 (([] : List Int), false))).1), true)) fun y11 =>
                    cond (decide ((List.length ((y11).1).1) = (List.length ((y11).1).1)))
                      (
                      some y11)
                      (
                      none))
                    (
                    none))
                  (
                  none)))))
          (
          none)))) y2

abbrev c_lodgeref3_SoftResult (N : Nat) : CallSpec := ⟨45, ps_lodgeref3_SoftResult, rs_lodgeref3_SoftResult, fun x => F_lodgeref3_SoftResult N x.1 x.2.1⟩

theorem cs_lodgeref3_SoftResult_ok (S : Nat → Addr) (N : Nat) : CallsOK Go.Proofs.Tryd.prog E S (cs_lodgeref3_SoftResult N) :=
  .cons (F_lodgeref_SameDesc_ok S N) (.cons (F_lodgeref3_descs_ok S N) (.cons (F_lodgeref3_seen_ok S N) (.nil)))
theorem F_lodgeref3_SoftResult_ok (S : Nat → Addr) (N : Nat) : ∀ x y, (c_lodgeref3_SoftResult N).g x = some y → FCon Go.Proofs.Tryd.prog E S 45 ps_lodgeref3_SoftResult rs_lodgeref3_SoftResult x y := by
  intro x y h
  exact fun_specJ E_ok mixed (cs_lodgeref3_SoftResult_ok S N) (f := 45) (fi := ⟨b_lodgeref3_SoftResult, 107, Go.Proofs.Tryd.f45.results.toList⟩) (by kernel_rfl) (ls := []) (.nil) (js := j_lodgeref3_SoftResult) (by kernel_rfl) (ps := ps_lodgeref3_SoftResult) (rs := rs_lodgeref3_SoftResult) (Eq.trans (b := F_lodgeref3_SoftResult N x.1 x.2.1) (by kernel_rfl) h)


end Go.Proofs.YtnblnlanicpagaaDoor.Lg
