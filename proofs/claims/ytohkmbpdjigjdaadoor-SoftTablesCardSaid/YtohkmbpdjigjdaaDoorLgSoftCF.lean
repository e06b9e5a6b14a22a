/-
  The functions of the seat's program, as plain functions.
-/
import Derived.Test.YtohkmbpdjigjdaaDoorLgSoftCFb
namespace Go.Proofs.YtohkmbpdjigjdaaDoor.Lg
open Go Go.Eng Go.Proofs
set_option maxRecDepth 100000

/-! lodge/lodgeref.SameDesc -/

abbrev ps_lodgeref_SameDesc : List Ty := [(.st (.pair (.sl (.int .i64)) .bool)), (.st (.pair (.sl (.int .i64)) .bool))]
abbrev rs_lodgeref_SameDesc : List Slot := [.data .bool]
abbrev cs_lodgeref_SameDesc (N : Nat) : List CallSpec := [c_lodgeref_SameInts N]
noncomputable abbrev b_lodgeref_SameDesc : Code := (Go.Proofs.Tryd.f26.body).getD .skip

def F_lodgeref_SameDesc (N : Nat) (a_0 : (List Int × Bool)) (b_1 : (List Int × Bool)) : Option (Bool × Unit) :=
  Option.bind (F_lodgeref_SameInts N (a_0).1 (b_1).1) fun y0 =>
  cond (y0).1
    (
    some (((a_0).2 == (b_1).2), ()))
    (
    some (false, ()))

abbrev c_lodgeref_SameDesc (N : Nat) : CallSpec := ⟨26, ps_lodgeref_SameDesc, rs_lodgeref_SameDesc, fun x => F_lodgeref_SameDesc N x.1 x.2.1⟩

theorem cs_lodgeref_SameDesc_ok (S : Nat → Addr) (N : Nat) : CallsOK Go.Proofs.Tryd.prog E S (cs_lodgeref_SameDesc N) :=
  .cons (F_lodgeref_SameInts_ok S N) (.nil)
theorem F_lodgeref_SameDesc_ok (S : Nat → Addr) (N : Nat) : ∀ x y, (c_lodgeref_SameDesc N).g x = some y → FCon Go.Proofs.Tryd.prog E S 26 ps_lodgeref_SameDesc rs_lodgeref_SameDesc x y := by
  intro x y h
  exact fun_spec E_ok mixed (cs_lodgeref_SameDesc_ok S N) (f := 26) (fi := ⟨b_lodgeref_SameDesc, 19, Go.Proofs.Tryd.f26.results.toList⟩) (by kernel_rfl) (ls := []) (.nil) (by kernel_rfl) (ps := ps_lodgeref_SameDesc) (rs := rs_lodgeref_SameDesc) (Eq.trans (b := F_lodgeref_SameDesc N x.1 x.2.1) (by kernel_rfl) h)

/-! lodge/lodgeref.SameTensor -/

abbrev ps_lodgeref_SameTensor : List Ty := [(.st (.pair (.st (.pair (.sl (.int .i64)) .bool)) (.sl (.int .i64)))), (.st (.pair (.st (.pair (.sl (.int .i64)) .bool)) (.sl (.int .i64))))]
abbrev rs_lodgeref_SameTensor : List Slot := [.data .bool]
abbrev cs_lodgeref_SameTensor (N : Nat) : List CallSpec := [c_lodgeref_SameInts N, c_lodgeref_SameDesc N]
noncomputable abbrev b_lodgeref_SameTensor : Code := (Go.Proofs.Tryd.f13.body).getD .skip

def F_lodgeref_SameTensor (N : Nat) (a_0 : ((List Int × Bool) × List Int)) (b_1 : ((List Int × Bool) × List Int)) : Option (Bool × Unit) :=
  Option.bind (F_lodgeref_SameDesc N (a_0).1 (b_1).1) fun y0 =>
  Option.bind (F_lodgeref_SameInts N (a_0).2 (b_1).2) fun y1 =>
  cond (y0).1
    (
    some y1)
    (
    some (false, ()))

abbrev c_lodgeref_SameTensor (N : Nat) : CallSpec := ⟨13, ps_lodgeref_SameTensor, rs_lodgeref_SameTensor, fun x => F_lodgeref_SameTensor N x.1 x.2.1⟩

theorem cs_lodgeref_SameTensor_ok (S : Nat → Addr) (N : Nat) : CallsOK Go.Proofs.Tryd.prog E S (cs_lodgeref_SameTensor N) :=
  .cons (F_lodgeref_SameInts_ok S N) (.cons (F_lodgeref_SameDesc_ok S N) (.nil))
theorem F_lodgeref_SameTensor_ok (S : Nat → Addr) (N : Nat) : ∀ x y, (c_lodgeref_SameTensor N).g x = some y → FCon Go.Proofs.Tryd.prog E S 13 ps_lodgeref_SameTensor rs_lodgeref_SameTensor x y := by
  intro x y h
  exact fun_spec E_ok mixed (cs_lodgeref_SameTensor_ok S N) (f := 13) (fi := ⟨b_lodgeref_SameTensor, 21, Go.Proofs.Tryd.f13.results.toList⟩) (by kernel_rfl) (ls := []) (.nil) (by kernel_rfl) (ps := ps_lodgeref_SameTensor) (rs := rs_lodgeref_SameTensor) (Eq.trans (b := F_lodgeref_SameTensor N x.1 x.2.1) (by kernel_rfl) h)

/-! lodge/lodgelaw11.SoftTables -/

abbrev ps_lodgelaw11_SoftTables : List Ty := [.flt]
abbrev rs_lodgelaw11_SoftTables : List Slot := [.data .bool]
abbrev cs_lodgelaw11_SoftTables (N : Nat) : List CallSpec := [c_soft_Table N, c_lodgelaw11_first N, c_lodgeref3_Table N, c_lodgesee_Is N, c_lodgeref_SameTensor N]
noncomputable abbrev b_lodgelaw11_SoftTables : Code := (Go.Proofs.Tryd.f3.body).getD .skip

abbrev h_lodgelaw11_SoftTables_0 : List Slot := [.dead, .dead, .dead, .data .bool, .box [.sl (.int .i64), .d .bool, .sl (.int .i64)], .dead, .dead, .dead, .data (.int .i64), .dead, .dead, .dead, .dead, .dead, .dead, .dead, .dead, .dead, .dead, .dead, .dead, .dead, .dead, .dead, .dead, .dead, .dead, .dead, .dead, .dead, .dead, .dead, .dead, .dead, .dead, .dead, .dead, .dead, .dead, .dead, .dead, .dead, .dead, .dead, .dead, .dead, .dead, .dead, .dead, .dead, .dead, .dead, .dead, .dead, .dead, .dead, .dead, .dead, .dead, .dead, .dead, .dead, .dead, .dead, .dead, .dead, .dead, .dead, .dead, .dead, .dead, .dead, .dead, .dead, .dead]
abbrev e_lodgelaw11_SoftTables_0 : List (AX × List Slot) := [(AX.exit 0, [.dead, .dead, .dead, .data .bool, .dead, .dead, .dead, .dead, .dead, .dead, .dead, .dead, .dead, .dead, .dead, .dead, .dead, .dead, .dead, .dead, .dead, .dead, .dead, .dead, .dead, .dead, .dead, .dead, .dead, .dead, .dead, .dead, .dead, .dead, .dead, .dead, .dead, .dead, .dead, .dead, .dead, .dead, .dead, .dead, .dead, .dead, .dead, .dead, .dead, .dead, .dead, .dead, .dead, .dead, .dead, .dead, .dead, .dead, .dead, .dead, .dead, .dead, .dead, .dead, .dead, .dead, .dead, .dead, .dead, .dead, .dead, .dead, .dead, .dead, .dead]), (AX.ret, [.dead, .dead, .data .bool, .dead, .dead, .dead, .dead, .dead, .dead, .dead, .dead, .dead, .dead, .dead, .dead, .dead, .dead, .dead, .dead, .dead, .dead, .dead, .dead, .dead, .dead, .dead, .dead, .dead, .dead, .dead, .dead, .dead, .dead, .dead, .dead, .dead, .dead, .dead, .dead, .dead, .dead, .dead, .dead, .dead, .dead, .dead, .dead, .dead, .dead, .dead, .dead, .dead, .dead, .dead, .dead, .dead, .dead, .dead, .dead, .dead, .dead, .dead, .dead, .dead, .dead, .dead, .dead, .dead, .dead, .dead, .dead, .dead, .dead, .dead, .dead])]
def g_lodgelaw11_SoftTables_0 (N : Nat) : Nat → Bool → (List Int × (Bool × (List Int × Unit))) → Int → Option (Sum (Bool × Unit) (Bool × Unit))
  | 0, _, _, _ => none
  | n + 1, ok_3, t_4, i_8 =>
    cond (decide (i_8 < (256 : Int)))
      (
      cond (decide ((0 : Int) ≤ i_8))
        (
        cond (decide ((Int.toNat i_8) < (List.length (((t_4).2).2).1)))
          (
          cond (decide (((0 : Nat) + (Int.toNat i_8)) < (List.length (((t_4).2).2).1)))
            (
            cond (decide ((0 : Int) ≤ (wi64 (i_8 - (1 : Int)))))
              (
              cond (decide ((Int.toNat (wi64 (i_8 - (1 : Int)))) < (List.length (((t_4).2).2).1)))
                (
                cond (decide (((0 : Nat) + (Int.toNat (wi64 (i_8 - (1 : Int))))) < (List.length (((t_4).2).2).1)))
                  (
                  cond (decide ((List.getD (((t_4).2).2).1 ((0 : Nat) + (Int.toNat (wi64 (i_8 - (1 : Int))))) (0 : Int)) < (List.getD (((t_4).2).2).1 ((0 : Nat) + (Int.toNat i_8)) (0 : Int))))
                    (
                    some (Sum.inr (false, ())))
                    (
                    cond (decide ((0 : Int) ≤ i_8))
                      (
                      cond (decide ((Int.toNat i_8) < (List.length (((t_4).2).2).1)))
                        (
                        cond (decide (((0 : Nat) + (Int.toNat i_8)) < (List.length (((t_4).2).2).1)))
                          (
                          cond (decide ((List.getD (((t_4).2).2).1 ((0 : Nat) + (Int.toNat i_8)) (0 : Int)) < (0 : Int)))
                            (
                            some (Sum.inr (false, ())))
                            (
                            cond (decide ((List.length (t_4).1) = (List.length (t_4).1)))
                              (
                              cond (decide ((List.length (((t_4).2).2).1) = (List.length (((t_4).2).2).1)))
                                (
                                (g_lodgelaw11_SoftTables_0 N n ok_3 t_4 (wi64 (i_8 + (1 : Int)))))
                                (
                                none))
                              (
                              none)))
                          (
                          none))
                        (
                        none))
                      (
                      none)))
                  (
                  none))
                (
                none))
              (
              none))
            (
            none))
          (
          none))
        (
        none))
      (
      some (Sum.inl (ok_3, ())))

def F_lodgelaw11_SoftTables (N : Nat) (by_0 : Nat) : Option (Bool × Unit) :=
  Option.bind (F_lodgelaw11_first N) fun y0 =>
  cond (Bool.not (y0).1)
    (
    some (false, ()))
    (
    Option.bind (F_soft_Table N by_0) fun y1 =>
    Option.bind (F_lodgeref3_Table N by_0) fun y2 =>
    cond (Bool.not ((y2).2).1)
      (
      cond (y0).1
        (
        cond (decide ((Nat.cast (List.length ((((y1).1).2).2).1) : Int) = (0 : Int)))
          (
          Option.bind (F_lodgesee_Is N ((y1).2).1 (102 : Int)) fun y3 =>
          some y3)
          (
          some (false, ())))
        (
        some (false, ())))
      (
      cond (Bool.not (Go.Eng.Er.isNil ((y1).2).1))
        (
        some (false, ()))
        (
        cond (decide (((0 : Nat) + (List.length ((y1).1).1)) ≤ (List.length ((y1).1).1)))
          (
          cond (decide (((0 : Nat) + (List.length ((((y1).1).2).2).1)) ≤ (List.length ((((y1).1).2).2).1)))
            (
            cond (decide (((0 : Nat) + (List.length ((y2).1).1)) ≤ (List.length ((y2).1).1)))
              (
              cond (decide (((0 : Nat) + (List.length ((((y2).1).2).2).1)) ≤ (List.length ((((y2).1).2).2).1)))
                (
                Option.bind (F_lodgeref_SameTensor N (((List.take (List.length ((y1).1).1) ((y1).1).1), (((y1).1).2).1), (List.take (List.length ((((y1).1).2).2).1) ((((y1).1).2).2).1)) (((List.take (List.length ((y2).1).1) ((y2).1).1), (((y2).1).2).1), (List.take (List.length ((((y2).1).2).2).1) ((((y2).1).2).2).1))) fun y4 =>
                cond (Bool.not (y4).1)
                  (
                  some (false, ()))
                  (
                  cond (decide (0 < (List.length ((((y1).1).2).2).1)))
                    (
                    cond (decide (((0 : Nat) + 0) < (List.length ((((y1).1).2).2).1)))
                      (
                      cond (decide (@Ne Int (List.getD ((((y1).1).2).2).1 ((0 : Nat) + 0) (0 : Int)) (1048576 : Int)))
                        (
                        some (false, ()))
                        (
                        cond (decide ((List.length ((y1).1).1) = (List.length ((y1).1).1)))
                          (
                          cond (decide ((List.length ((((y1).1).2).2).1) = (List.length ((((y1).1).2).2).1)))
                            (
                            Option.bind (g_lodgelaw11_SoftTables_0 N N (y0).1 (y1).1 (1 : Int)) fun y5 =>
                            Sum.elim (fun y6 =>
                              some y6)
                              (fun y7 =>
                              some y7) y5)
                            (
                            none))
                          (
                          none)))
                      (
                      none))
                    (
                    none)))
                (
                none))
              (
              none))
            (
            none))
          (
          none))))

abbrev c_lodgelaw11_SoftTables (N : Nat) : CallSpec := ⟨3, ps_lodgelaw11_SoftTables, rs_lodgelaw11_SoftTables, fun x => F_lodgelaw11_SoftTables N x.1⟩
abbrev l_lodgelaw11_SoftTables_0 (N : Nat) : LoopSpec := ⟨0, h_lodgelaw11_SoftTables_0, e_lodgelaw11_SoftTables_0, fun x => g_lodgelaw11_SoftTables_0 N N x.1 x.2.1 x.2.2.1⟩

theorem cs_lodgelaw11_SoftTables_ok (S : Nat → Addr) (N : Nat) : CallsOK Go.Proofs.Tryd.prog E S (cs_lodgelaw11_SoftTables N) :=
  .cons (F_soft_Table_ok S N) (.cons (F_lodgelaw11_first_ok S N) (.cons (F_lodgeref3_Table_ok S N) (.cons (F_lodgesee_Is_ok S N) (.cons (F_lodgeref_SameTensor_ok S N) (.nil)))))
noncomputable abbrev b_lodgelaw11_SoftTables_0 : Code := (loopsOf b_lodgelaw11_SoftTables).getD 0 .skip
theorem g_lodgelaw11_SoftTables_0_ok (S : Nat → Addr) (N : Nat) : ∀ n x y, (fun (x : Val (slotsTy h_lodgelaw11_SoftTables_0)) => g_lodgelaw11_SoftTables_0 N n x.1 x.2.1 x.2.2.1) x = some y → LoopCon Go.Proofs.Tryd.prog E S b_lodgelaw11_SoftTables_0 (encSlots h_lodgelaw11_SoftTables_0 x) (encEx e_lodgelaw11_SoftTables_0 y).1 (encEx e_lodgelaw11_SoftTables_0 y).2 :=
  loop_spec E_ok mixed (cs_lodgelaw11_SoftTables_ok S N) (all := loopsOf b_lodgelaw11_SoftTables) (ls := []) (.nil) (i := 0) (by kernel_rfl) (inner_of (by kernel_rfl)) (head := h_lodgelaw11_SoftTables_0) (ex := e_lodgelaw11_SoftTables_0) (fun n (x : Val (slotsTy h_lodgelaw11_SoftTables_0)) => g_lodgelaw11_SoftTables_0 N n x.1 x.2.1 x.2.2.1) (fun _ => rfl) (fun n x => by kernel_rfl)
theorem F_lodgelaw11_SoftTables_ok (S : Nat → Addr) (N : Nat) : ∀ x y, (c_lodgelaw11_SoftTables N).g x = some y → FCon Go.Proofs.Tryd.prog E S 3 ps_lodgelaw11_SoftTables rs_lodgelaw11_SoftTables x y := by
  intro x y h
  exact fun_spec E_ok mixed (cs_lodgelaw11_SoftTables_ok S N) (f := 3) (fi := ⟨b_lodgelaw11_SoftTables, 75, Go.Proofs.Tryd.f3.results.toList⟩) (by kernel_rfl) (ls := [l_lodgelaw11_SoftTables_0 N]) (.cons (by kernel_rfl) (g_lodgelaw11_SoftTables_0_ok S N N) (.nil)) (by kernel_rfl) (ps := ps_lodgelaw11_SoftTables) (rs := rs_lodgelaw11_SoftTables) (Eq.trans (b := F_lodgelaw11_SoftTables N x.1) (by kernel_rfl) h)

end Go.Proofs.YtohkmbpdjigjdaaDoor.Lg
