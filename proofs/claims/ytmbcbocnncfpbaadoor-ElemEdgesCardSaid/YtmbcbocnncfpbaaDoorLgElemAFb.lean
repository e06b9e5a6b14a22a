/-
  The functions of the seat's program, as plain functions.
-/
import Derived.Test.YtmbcbocnncfpbaaDoorLgElemAFa
namespace Go.Proofs.YtmbcbocnncfpbaaDoor.Lg
open Go Go.Eng Go.Proofs
set_option maxRecDepth 100000

/-! lodge/lodgelaw7.first -/

abbrev ps_lodgelaw7_first : List Ty := []
abbrev rs_lodgelaw7_first : List Slot := [.data .bool]
abbrev cs_lodgelaw7_first (N : Nat) : List CallSpec := [c_elem_Two N, c_lodgeref_SameInts N]
noncomputable abbrev b_lodgelaw7_first : Code := (Go.Proofs.Tryd.f9.body).getD .skip

def F_lodgelaw7_first (N : Nat)  : Option (Bool × Unit) :=
  Option.bind (F_elem_Two N (4 : Int) ((([] : List Int), false), ((100 : Int) :: ([] : List Int))) ((([] : List Int), false), ((100 : Int) :: ([] : List Int)))) fun y0 =>
  cond (Go.Eng.Er.isNil ((y0).2).1)
    (
    cond (decide (((0 : Nat) + (List.length ((((y0).1).2).2).1)) ≤ (List.length ((((y0).1).2).2).1)))
      (
      Option.bind (F_lodgeref_SameInts N (List.take (List.length ((((y0).1).2).2).1) ((((y0).1).2).2).1) ((127 : Int) :: ([] : List Int))) fun y1 =>
      some y1)
      (
      none))
    (
    some (false, ()))

abbrev c_lodgelaw7_first (N : Nat) : CallSpec := ⟨9, ps_lodgelaw7_first, rs_lodgelaw7_first, fun x => F_lodgelaw7_first N ⟩

theorem cs_lodgelaw7_first_ok (S : Nat → Addr) (N : Nat) : CallsOK Go.Proofs.Tryd.prog E S (cs_lodgelaw7_first N) :=
  .cons (F_elem_Two_ok S N) (.cons (F_lodgeref_SameInts_ok S N) (.nil))
theorem F_lodgelaw7_first_ok (S : Nat → Addr) (N : Nat) : ∀ x y, (c_lodgelaw7_first N).g x = some y → FCon Go.Proofs.Tryd.prog E S 9 ps_lodgelaw7_first rs_lodgelaw7_first x y := by
  intro x y h
  exact fun_spec E_ok mixed (cs_lodgelaw7_first_ok S N) (f := 9) (fi := ⟨b_lodgelaw7_first, 20, Go.Proofs.Tryd.f9.results.toList⟩) (by kernel_rfl) (ls := []) (.nil) (by kernel_rfl) (ps := ps_lodgelaw7_first) (rs := rs_lodgelaw7_first) (Eq.trans (b := F_lodgelaw7_first N ) (by kernel_rfl) h)

/-! lodge/lodgeworld.Number -/

abbrev ps_lodgeworld_Number : List Ty := [(.int .i64), (.int .i64)]
abbrev rs_lodgeworld_Number : List Slot := [.data (.int .i64)]
abbrev cs_lodgeworld_Number (N : Nat) : List CallSpec := []
noncomputable abbrev b_lodgeworld_Number : Code := (Go.Proofs.Tryd.f15.body).getD .skip

def F_lodgeworld_Number (N : Nat) (n_0 : Int) (below_1 : Int) : Option (Int × Unit) :=
  cond (decide (@Ne Int below_1 (0 : Int)))
    (
    cond (decide (@Ne Int below_1 (0 : Int)))
      (
      some ((Int.tmod (wi64 ((Int.tmod n_0 below_1) + below_1)) below_1), ()))
      (
      none))
    (
    none)

abbrev c_lodgeworld_Number (N : Nat) : CallSpec := ⟨15, ps_lodgeworld_Number, rs_lodgeworld_Number, fun x => F_lodgeworld_Number N x.1 x.2.1⟩

theorem cs_lodgeworld_Number_ok (S : Nat → Addr) (N : Nat) : CallsOK Go.Proofs.Tryd.prog E S (cs_lodgeworld_Number N) :=
  .nil
theorem F_lodgeworld_Number_ok (S : Nat → Addr) (N : Nat) : ∀ x y, (c_lodgeworld_Number N).g x = some y → FCon Go.Proofs.Tryd.prog E S 15 ps_lodgeworld_Number rs_lodgeworld_Number x y := by
  intro x y h
  exact fun_spec E_ok mixed (cs_lodgeworld_Number_ok S N) (f := 15) (fi := ⟨b_lodgeworld_Number, 12, Go.Proofs.Tryd.f15.results.toList⟩) (by kernel_rfl) (ls := []) (.nil) (by kernel_rfl) (ps := ps_lodgeworld_Number) (rs := rs_lodgeworld_Number) (Eq.trans (b := F_lodgeworld_Number N x.1 x.2.1) (by kernel_rfl) h)

/-! lodge/lodgelaw7.ElemEdges$1 -/

abbrev ps_lodgelaw7_ElemEdges_1 : List Ty := [(.int .i64)]
abbrev rs_lodgelaw7_ElemEdges_1 : List Slot := [.data (.int .i64)]
abbrev cs_lodgelaw7_ElemEdges_1 (N : Nat) : List CallSpec := []
noncomputable abbrev b_lodgelaw7_ElemEdges_1 : Code := (Go.Proofs.Tryd.f16.body).getD .skip

def F_lodgelaw7_ElemEdges_1 (N : Nat) (n_0 : Int) : Option (Int × Unit) :=
  some ((Go.Eng.imin (Go.Eng.imax n_0 (-(128 : Int))) (127 : Int)), ())

abbrev c_lodgelaw7_ElemEdges_1 (N : Nat) : CallSpec := ⟨16, ps_lodgelaw7_ElemEdges_1, rs_lodgelaw7_ElemEdges_1, fun x => F_lodgelaw7_ElemEdges_1 N x.1⟩

theorem cs_lodgelaw7_ElemEdges_1_ok (S : Nat → Addr) (N : Nat) : CallsOK Go.Proofs.Tryd.prog E S (cs_lodgelaw7_ElemEdges_1 N) :=
  .nil
theorem F_lodgelaw7_ElemEdges_1_ok (S : Nat → Addr) (N : Nat) : ∀ x y, (c_lodgelaw7_ElemEdges_1 N).g x = some y → FCon Go.Proofs.Tryd.prog E S 16 ps_lodgelaw7_ElemEdges_1 rs_lodgelaw7_ElemEdges_1 x y := by
  intro x y h
  exact fun_spec E_ok mixed (cs_lodgelaw7_ElemEdges_1_ok S N) (f := 16) (fi := ⟨b_lodgelaw7_ElemEdges_1, 6, Go.Proofs.Tryd.f16.results.toList⟩) (by kernel_rfl) (ls := []) (.nil) (by kernel_rfl) (ps := ps_lodgelaw7_ElemEdges_1) (rs := rs_lodgelaw7_ElemEdges_1) (Eq.trans (b := F_lodgelaw7_ElemEdges_1 N x.1) (by kernel_rfl) h)

/-! lodge/lodgelaw7.ElemEdges -/

abbrev ps_lodgelaw7_ElemEdges : List Ty := [(.int .i64), (.int .i64)]
abbrev rs_lodgelaw7_ElemEdges : List Slot := [.data .bool]
abbrev cs_lodgelaw7_ElemEdges (N : Nat) : List CallSpec := [c_tens_Wide N, c_elem_Value N, c_lodgelaw7_first N, c_lodgeworld_Number N, c_lodgelaw7_ElemEdges_1 N]
noncomputable abbrev b_lodgelaw7_ElemEdges : Code := (Go.Proofs.Tryd.f4.body).getD .skip

def F_lodgelaw7_ElemEdges (N : Nat) (x_0 : Int) (y_1 : Int) : Option (Bool × Unit) :=
  Option.bind (F_lodgelaw7_first N) fun y0 =>
  cond (Bool.not (y0).1)
    (
    some (false, ()))
    (
    Option.bind (F_lodgeworld_Number N x_0 (7 : Int)) fun y1 =>
    cond (decide ((0 : Int) ≤ (y1).1))
      (
      cond (decide ((Int.toNat (y1).1) < (7 : Nat)))
        (
        cond (decide (((0 : Nat) + (Int.toNat (y1).1)) < 7))
          (
          Option.bind (F_lodgeworld_Number N y_1 (7 : Int)) fun y2 =>
          cond (decide ((0 : Int) ≤ (y2).1))
            (
            cond (decide ((Int.toNat (y2).1) < (7 : Nat)))
              (
              cond (decide (((0 : Nat) + (Int.toNat (y2).1)) < 7))
                (
                Option.bind (F_elem_Value N (4 : Int) false (List.getD ((-(128 : Int)) :: ((-(127 : Int)) :: ((-(1 : Int)) :: ((0 : Int) :: ((1 : Int) :: ((126 : Int) :: ((127 : Int) :: ([] : List Int)))))))) ((0 : Nat) + (Int.toNat (y1).1)) (0 : Int)) (List.getD ((-(128 : Int)) :: ((-(127 : Int)) :: ((-(1 : Int)) :: ((0 : Int) :: ((1 : Int) :: ((126 : Int) :: ((127 : Int) :: ([] : List Int)))))))) ((0 : Nat) + (Int.toNat (y2).1)) (0 : Int)) ([] : List Int)) fun y3 =>
                Option.bind (F_lodgelaw7_ElemEdges_1 N (wi64 ((List.getD ((-(128 : Int)) :: ((-(127 : Int)) :: ((-(1 : Int)) :: ((0 : Int) :: ((1 : Int) :: ((126 : Int) :: ((127 : Int) :: ([] : List Int)))))))) ((0 : Nat) + (Int.toNat (y1).1)) (0 : Int)) + (List.getD ((-(128 : Int)) :: ((-(127 : Int)) :: ((-(1 : Int)) :: ((0 : Int) :: ((1 : Int) :: ((126 : Int) :: ((127 : Int) :: ([] : List Int)))))))) ((0 : Nat) + (Int.toNat (y2).1)) (0 : Int))))) fun y4 =>
                cond (decide (@Ne Int (y3).1 (y4).1))
                  (
                  some (false, ()))
                  (
                  Option.bind (F_elem_Value N (5 : Int) false (List.getD ((-(128 : Int)) :: ((-(127 : Int)) :: ((-(1 : Int)) :: ((0 : Int) :: ((1 : Int) :: ((126 : Int) :: ((127 : Int) :: ([] : List Int)))))))) ((0 : Nat) + (Int.toNat (y1).1)) (0 : Int)) (List.getD ((-(128 : Int)) :: ((-(127 : Int)) :: ((-(1 : Int)) :: ((0 : Int) :: ((1 : Int) :: ((126 : Int) :: ((127 : Int) :: ([] : List Int)))))))) ((0 : Nat) + (Int.toNat (y2).1)) (0 : Int)) ([] : List Int)) fun y5 =>
                  Option.bind (F_lodgelaw7_ElemEdges_1 N (wi64 ((List.getD ((-(128 : Int)) :: ((-(127 : Int)) :: ((-(1 : Int)) :: ((0 : Int) :: ((1 : Int) :: ((126 : Int) :: ((127 : Int) :: ([] : List Int)))))))) ((0 : Nat) + (Int.toNat (y1).1)) (0 : Int)) - (List.getD ((-(128 : Int)) :: ((-(127 : Int)) :: ((-(1 : Int)) :: ((0 : Int) :: ((1 : Int) :: ((126 : Int) :: ((127 : Int) :: ([] : List Int)))))))) ((0 : Nat) + (Int.toNat (y2).1)) (0 : Int))))) fun y6 =>
                  cond (decide (@Ne Int (y5).1 (y6).1))
                    (
                    some (false, ()))
                    (
                    Option.bind (F_elem_Value N (6 : Int) false (List.getD ((-(128 : Int)) :: ((-(127 : Int)) :: ((-(1 : Int)) :: ((0 : Int) :: ((1 : Int) :: ((126 : Int) :: ((127 : Int) :: ([] : List Int)))))))) ((0 : Nat) + (Int.toNat (y1).1)) (0 : Int)) (List.getD ((-(128 : Int)) :: ((-(127 : Int)) :: ((-(1 : Int)) :: ((0 : Int) :: ((1 : Int) :: ((126 : Int) :: ((127 : Int) :: ([] : List Int)))))))) ((0 : Nat) + (Int.toNat (y2).1)) (0 : Int)) ([] : List Int)) fun y7 =>
                    Option.bind (F_lodgelaw7_ElemEdges_1 N (wi64 ((List.getD ((-(128 : Int)) :: ((-(127 : Int)) :: ((-(1 : Int)) :: ((0 : Int) :: ((1 : Int) :: ((126 : Int) :: ((127 : Int) :: ([] : List Int)))))))) ((0 : Nat) + (Int.toNat (y1).1)) (0 : Int)) * (List.getD ((-(128 : Int)) :: ((-(127 : Int)) :: ((-(1 : Int)) :: ((0 : Int) :: ((1 : Int) :: ((126 : Int) :: ((127 : Int) :: ([] : List Int)))))))) ((0 : Nat) + (Int.toNat (y2).1)) (0 : Int))))) fun y8 =>
                    cond (decide (@Ne Int (y7).1 (y8).1))
                      (
                      some (false, ()))
                      (
                      Option.bind (F_lodgeworld_Number N x_0 (7 : Int)) fun y9 =>
                      cond (decide ((0 : Int) ≤ (y9).1))
                        (
                        cond (decide ((Int.toNat (y9).1) < (7 : Nat)))
                          (
                          cond (decide (((0 : Nat) + (Int.toNat (y9).1)) < 7))
                            (
                            Option.bind (F_lodgeworld_Number N y_1 (7 : Int)) fun y10 =>
                            cond (decide ((0 : Int) ≤ (y10).1))
                              (
                              cond (decide ((Int.toNat (y10).1) < (7 : Nat)))
                                (
                                cond (decide (((0 : Nat) + (Int.toNat (y10).1)) < 7))
                                  (
                                  cond (y0).1
                                    (
                                    Option.bind (F_elem_Value N (4 : Int) true (List.getD ((-(2147483648 : Int)) :: ((-(2147483647 : Int)) :: ((-(1 : Int)) :: ((0 : Int) :: ((1 : Int) :: ((2147483646 : Int) :: ((2147483647 : Int) :: ([] : List Int)))))))) ((0 : Nat) + (Int.toNat (y9).1)) (0 : Int)) (List.getD ((-(2147483648 : Int)) :: ((-(2147483647 : Int)) :: ((-(1 : Int)) :: ((0 : Int) :: ((1 : Int) :: ((2147483646 : Int) :: ((2147483647 : Int) :: ([] : List Int)))))))) ((0 : Nat) + (Int.toNat (y10).1)) (0 : Int)) ([] : List Int)) fun y11 =>
                                    Option.bind (F_tens_Wide N (wi64 ((List.getD ((-(2147483648 : Int)) :: ((-(2147483647 : Int)) :: ((-(1 : Int)) :: ((0 : Int) :: ((1 : Int) :: ((2147483646 : Int) :: ((2147483647 : Int) :: ([] : List Int)))))))) ((0 : Nat) + (Int.toNat (y9).1)) (0 : Int)) + (List.getD ((-(2147483648 : Int)) :: ((-(2147483647 : Int)) :: ((-(1 : Int)) :: ((0 : Int) :: ((1 : Int) :: ((2147483646 : Int) :: ((2147483647 : Int) :: ([] : List Int)))))))) ((0 : Nat) + (Int.toNat (y10).1)) (0 : Int))))) fun y12 =>
                                    cond (decide ((y11).1 = (y12).1))
                                      (
                                      Option.bind (F_elem_Value N (5 : Int) true (List.getD ((-(2147483648 : Int)) :: ((-(2147483647 : Int)) :: ((-(1 : Int)) :: ((0 : Int) :: ((1 : Int) :: ((2147483646 : Int) :: ((2147483647 : Int) :: ([] : List Int)))))))) ((0 : Nat) + (Int.toNat (y9).1)) (0 : Int)) (List.getD ((-(2147483648 : Int)) :: ((-(2147483647 : Int)) :: ((-(1 : Int)) :: ((0 : Int) :: ((1 : Int) :: ((2147483646 : Int) :: ((2147483647 : Int) :: ([] : List Int)))))))) ((0 : Nat) + (Int.toNat (y10).1)) (0 : Int)) ([] : List Int)) fun y13 =>
                                      Option.bind (F_tens_Wide N (wi64 ((List.getD ((-(2147483648 : Int)) :: ((-(2147483647 : Int)) :: ((-(1 : Int)) :: ((0 : Int) :: ((1 : Int) :: ((2147483646 : Int) :: ((2147483647 : Int) :: ([] : List Int)))))))) ((0 : Nat) + (Int.toNat (y9).1)) (0 : Int)) - (List.getD ((-(2147483648 : Int)) :: ((-(2147483647 : Int)) :: ((-(1 : Int)) :: ((0 : Int) :: ((1 : Int) :: ((2147483646 : Int) :: ((2147483647 : Int) :: ([] : List Int)))))))) ((0 : Nat) + (Int.toNat (y10).1)) (0 : Int))))) fun y14 =>
                                      cond (decide ((y13).1 = (y14).1))
                                        (
                                        Option.bind (F_elem_Value N (6 : Int) true (List.getD ((-(2147483648 : Int)) :: ((-(2147483647 : Int)) :: ((-(1 : Int)) :: ((0 : Int) :: ((1 : Int) :: ((2147483646 : Int) :: ((2147483647 : Int) :: ([] : List Int)))))))) ((0 : Nat) + (Int.toNat (y9).1)) (0 : Int)) (List.getD ((-(2147483648 : Int)) :: ((-(2147483647 : Int)) :: ((-(1 : Int)) :: ((0 : Int) :: ((1 : Int) :: ((2147483646 : Int) :: ((2147483647 : Int) :: ([] : List Int)))))))) ((0 : Nat) + (Int.toNat (y10).1)) (0 : Int)) ([] : List Int)) fun y15 =>
                                        Option.bind (F_tens_Wide N (wi64 ((List.getD ((-(2147483648 : Int)) :: ((-(2147483647 : Int)) :: ((-(1 : Int)) :: ((0 : Int) :: ((1 : Int) :: ((2147483646 : Int) :: ((2147483647 : Int) :: ([] : List Int)))))))) ((0 : Nat) + (Int.toNat (y9).1)) (0 : Int)) * (List.getD ((-(2147483648 : Int)) :: ((-(2147483647 : Int)) :: ((-(1 : Int)) :: ((0 : Int) :: ((1 : Int) :: ((2147483646 : Int) :: ((2147483647 : Int) :: ([] : List Int)))))))) ((0 : Nat) + (Int.toNat (y10).1)) (0 : Int))))) fun y16 =>
                                        cond (decide ((y15).1 = (y16).1))
                                          (
                                          Option.bind (F_elem_Value N (7 : Int) true (List.getD ((-(2147483648 : Int)) :: ((-(2147483647 : Int)) :: ((-(1 : Int)) :: ((0 : Int) :: ((1 : Int) :: ((2147483646 : Int) :: ((2147483647 : Int) :: ([] : List Int)))))))) ((0 : Nat) + (Int.toNat (y9).1)) (0 : Int)) (List.getD ((-(2147483648 : Int)) :: ((-(2147483647 : Int)) :: ((-(1 : Int)) :: ((0 : Int) :: ((1 : Int) :: ((2147483646 : Int) :: ((2147483647 : Int) :: ([] : List Int)))))))) ((0 : Nat) + (Int.toNat (y10).1)) (0 : Int)) ([] : List Int)) fun y17 =>
                                          some ((decide ((y17).1 = (Go.Eng.imax (List.getD ((-(2147483648 : Int)) :: ((-(2147483647 : Int)) :: ((-(1 : Int)) :: ((0 : Int) :: ((1 : Int) :: ((2147483646 : Int) :: ((2147483647 : Int) :: ([] : List Int)))))))) ((0 : Nat) + (Int.toNat (y9).1)) (0 : Int)) (List.getD ((-(2147483648 : Int)) :: ((-(2147483647 : Int)) :: ((-(1 : Int)) :: ((0 : Int) :: ((1 : Int) :: ((2147483646 : Int) :: ((2147483647 : Int) :: ([] : List Int)))))))) ((0 : Nat) + (Int.toNat (y10).1)) (0 : Int))))), ()))
                                          (
                                          some (false, ())))
                                        (
                                        some (false, ())))
                                      (
                                      some (false, ())))
                                    (
                                    some (false, ())))
                                  (
                                  none))
                                (
                                none))
                              (
                              none))
                            (
                            none))
                          (
                          none))
                        (
                        none)))))
                (
                none))
              (
              none))
            (
            none))
          (
          none))
        (
        none))
      (
      none))

abbrev c_lodgelaw7_ElemEdges (N : Nat) : CallSpec := ⟨4, ps_lodgelaw7_ElemEdges, rs_lodgelaw7_ElemEdges, fun x => F_lodgelaw7_ElemEdges N x.1 x.2.1⟩

theorem cs_lodgelaw7_ElemEdges_ok (S : Nat → Addr) (N : Nat) : CallsOK Go.Proofs.Tryd.prog E S (cs_lodgelaw7_ElemEdges N) :=
  .cons (F_tens_Wide_ok S N) (.cons (F_elem_Value_ok S N) (.cons (F_lodgelaw7_first_ok S N) (.cons (F_lodgeworld_Number_ok S N) (.cons (F_lodgelaw7_ElemEdges_1_ok S N) (.nil)))))
theorem F_lodgelaw7_ElemEdges_ok (S : Nat → Addr) (N : Nat) : ∀ x y, (c_lodgelaw7_ElemEdges N).g x = some y → FCon Go.Proofs.Tryd.prog E S 4 ps_lodgelaw7_ElemEdges rs_lodgelaw7_ElemEdges x y := by
  intro x y h
  exact fun_spec E_ok mixed (cs_lodgelaw7_ElemEdges_ok S N) (f := 4) (fi := ⟨b_lodgelaw7_ElemEdges, 109, Go.Proofs.Tryd.f4.results.toList⟩) (by kernel_rfl) (ls := []) (.nil) (by kernel_rfl) (ps := ps_lodgelaw7_ElemEdges) (rs := rs_lodgelaw7_ElemEdges) (Eq.trans (b := F_lodgelaw7_ElemEdges N x.1 x.2.1) (by kernel_rfl) h)

/-! lodge/lodgeref3.Wide -/

abbrev ps_lodgeref3_Wide : List Ty := [(.int .i64)]
abbrev rs_lodgeref3_Wide : List Slot := [.data (.int .i64)]
abbrev cs_lodgeref3_Wide (N : Nat) : List CallSpec := []
noncomputable abbrev b_lodgeref3_Wide : Code := (Go.Proofs.Tryd.f74.body).getD .skip

def F_lodgeref3_Wide (N : Nat) (n_0 : Int) : Option (Int × Unit) :=
  some ((wi64 (wi32 (wu32 (wu64 n_0)))), ())

abbrev c_lodgeref3_Wide (N : Nat) : CallSpec := ⟨74, ps_lodgeref3_Wide, rs_lodgeref3_Wide, fun x => F_lodgeref3_Wide N x.1⟩

theorem cs_lodgeref3_Wide_ok (S : Nat → Addr) (N : Nat) : CallsOK Go.Proofs.Tryd.prog E S (cs_lodgeref3_Wide N) :=
  .nil
theorem F_lodgeref3_Wide_ok (S : Nat → Addr) (N : Nat) : ∀ x y, (c_lodgeref3_Wide N).g x = some y → FCon Go.Proofs.Tryd.prog E S 74 ps_lodgeref3_Wide rs_lodgeref3_Wide x y := by
  intro x y h
  exact fun_spec E_ok mixed (cs_lodgeref3_Wide_ok S N) (f := 74) (fi := ⟨b_lodgeref3_Wide, 8, Go.Proofs.Tryd.f74.results.toList⟩) (by kernel_rfl) (ls := []) (.nil) (by kernel_rfl) (ps := ps_lodgeref3_Wide) (rs := rs_lodgeref3_Wide) (Eq.trans (b := F_lodgeref3_Wide N x.1) (by kernel_rfl) h)

/-! lodge/lodgeref3.Cut -/

abbrev ps_lodgeref3_Cut : List Ty := [(.int .i64), (.int .i64), (.int .i64)]
abbrev rs_lodgeref3_Cut : List Slot := [.data (.int .i64)]
abbrev cs_lodgeref3_Cut (N : Nat) : List CallSpec := []
noncomputable abbrev b_lodgeref3_Cut : Code := (Go.Proofs.Tryd.f57.body).getD .skip

def F_lodgeref3_Cut (N : Nat) (n_0 : Int) (from_1 : Int) (to_2 : Int) : Option (Int × Unit) :=
  cond (decide (n_0 < from_1))
    (
    some (from_1, ()))
    (
    cond (decide (to_2 < n_0))
      (
      some (to_2, ()))
      (
      some (n_0, ())))

abbrev c_lodgeref3_Cut (N : Nat) : CallSpec := ⟨57, ps_lodgeref3_Cut, rs_lodgeref3_Cut, fun x => F_lodgeref3_Cut N x.1 x.2.1 x.2.2.1⟩

theorem cs_lodgeref3_Cut_ok (S : Nat → Addr) (N : Nat) : CallsOK Go.Proofs.Tryd.prog E S (cs_lodgeref3_Cut N) :=
  .nil
theorem F_lodgeref3_Cut_ok (S : Nat → Addr) (N : Nat) : ∀ x y, (c_lodgeref3_Cut N).g x = some y → FCon Go.Proofs.Tryd.prog E S 57 ps_lodgeref3_Cut rs_lodgeref3_Cut x y := by
  intro x y h
  exact fun_spec E_ok mixed (cs_lodgeref3_Cut_ok S N) (f := 57) (fi := ⟨b_lodgeref3_Cut, 16, Go.Proofs.Tryd.f57.results.toList⟩) (by kernel_rfl) (ls := []) (.nil) (by kernel_rfl) (ps := ps_lodgeref3_Cut) (rs := rs_lodgeref3_Cut) (Eq.trans (b := F_lodgeref3_Cut N x.1 x.2.1 x.2.2.1) (by kernel_rfl) h)

/-! lodge/lodgeref3.kept -/

abbrev ps_lodgeref3_kept : List Ty := [(.int .i64), .bool]
abbrev rs_lodgeref3_kept : List Slot := [.data (.int .i64)]
abbrev cs_lodgeref3_kept (N : Nat) : List CallSpec := [c_lodgeref3_Wide N, c_lodgeref3_Cut N]
noncomputable abbrev b_lodgeref3_kept : Code := (Go.Proofs.Tryd.f56.body).getD .skip

def F_lodgeref3_kept (N : Nat) (n_0 : Int) (wide_1 : Bool) : Option (Int × Unit) :=
  cond wide_1
    (
    Option.bind (F_lodgeref3_Wide N n_0) fun y0 =>
    some y0)
    (
    Option.bind (F_lodgeref3_Cut N n_0 (-(128 : Int)) (127 : Int)) fun y1 =>
    some y1)

abbrev c_lodgeref3_kept (N : Nat) : CallSpec := ⟨56, ps_lodgeref3_kept, rs_lodgeref3_kept, fun x => F_lodgeref3_kept N x.1 x.2.1⟩

theorem cs_lodgeref3_kept_ok (S : Nat → Addr) (N : Nat) : CallsOK Go.Proofs.Tryd.prog E S (cs_lodgeref3_kept N) :=
  .cons (F_lodgeref3_Wide_ok S N) (.cons (F_lodgeref3_Cut_ok S N) (.nil))
theorem F_lodgeref3_kept_ok (S : Nat → Addr) (N : Nat) : ∀ x y, (c_lodgeref3_kept N).g x = some y → FCon Go.Proofs.Tryd.prog E S 56 ps_lodgeref3_kept rs_lodgeref3_kept x y := by
  intro x y h
  exact fun_spec E_ok mixed (cs_lodgeref3_kept_ok S N) (f := 56) (fi := ⟨b_lodgeref3_kept, 10, Go.Proofs.Tryd.f56.results.toList⟩) (by kernel_rfl) (ls := []) (.nil) (by kernel_rfl) (ps := ps_lodgeref3_kept) (rs := rs_lodgeref3_kept) (Eq.trans (b := F_lodgeref3_kept N x.1 x.2.1) (by kernel_rfl) h)

/-! lodge/lodgeref3.Requant -/

abbrev ps_lodgeref3_Requant : List Ty := [(.int .i64), (.int .i64), (.int .i64), (.int .i64)]
abbrev rs_lodgeref3_Requant : List Slot := [.data (.int .i64)]
abbrev cs_lodgeref3_Requant (N : Nat) : List CallSpec := [c_lodgeref3_Cut N]
noncomputable abbrev b_lodgeref3_Requant : Code := (Go.Proofs.Tryd.f58.body).getD .skip

def F_lodgeref3_Requant (N : Nat) (x_0 : Int) (mult_1 : Int) (shift_2 : Int) (zero_3 : Int) : Option (Int × Unit) :=
  Option.bind (F_lodgeref3_Cut N x_0 (-(2147483648 : Int)) (2147483647 : Int)) fun y0 =>
  Option.bind (F_lodgeref3_Cut N mult_1 (0 : Int) (2147483647 : Int)) fun y1 =>
  Option.bind (F_lodgeref3_Cut N shift_2 (0 : Int) (62 : Int)) fun y2 =>
  cond (decide ((0 : Int) < (y2).1))
    (
    cond (decide ((0 : Int) ≤ (wu64 (wi64 ((y2).1 - (1 : Int))))))
      (
      cond (decide ((0 : Int) ≤ (wu64 (y2).1)))
        (
        Option.bind (F_lodgeref3_Cut N (Go.Eng.shrI Go.IntKind.i64 (wi64 ((wi64 ((y0).1 * (y1).1)) + (Go.Eng.shlI Go.IntKind.i64 (1 : Int) (wu64 (wi64 ((y2).1 - (1 : Int))))))) (wu64 (y2).1)) (-(1099511627776 : Int)) (1099511627776 : Int)) fun y3 =>
        Option.bind (F_lodgeref3_Cut N zero_3 (-(128 : Int)) (127 : Int)) fun y4 =>
        Option.bind (F_lodgeref3_Cut N (wi64 ((y3).1 + (y4).1)) (-(128 : Int)) (127 : Int)) fun y5 =>
        some y5)
        (
        none))
      (
      none))
    (
    Option.bind (F_lodgeref3_Cut N (wi64 ((y0).1 * (y1).1)) (-(1099511627776 : Int)) (1099511627776 : Int)) fun y6 =>
    Option.bind (F_lodgeref3_Cut N zero_3 (-(128 : Int)) (127 : Int)) fun y7 =>
    Option.bind (F_lodgeref3_Cut N (wi64 ((y6).1 + (y7).1)) (-(128 : Int)) (127 : Int)) fun y8 =>
    some y8)

abbrev c_lodgeref3_Requant (N : Nat) : CallSpec := ⟨58, ps_lodgeref3_Requant, rs_lodgeref3_Requant, fun x => F_lodgeref3_Requant N x.1 x.2.1 x.2.2.1 x.2.2.2.1⟩

theorem cs_lodgeref3_Requant_ok (S : Nat → Addr) (N : Nat) : CallsOK Go.Proofs.Tryd.prog E S (cs_lodgeref3_Requant N) :=
  .cons (F_lodgeref3_Cut_ok S N) (.nil)
theorem F_lodgeref3_Requant_ok (S : Nat → Addr) (N : Nat) : ∀ x y, (c_lodgeref3_Requant N).g x = some y → FCon Go.Proofs.Tryd.prog E S 58 ps_lodgeref3_Requant rs_lodgeref3_Requant x y := by
  intro x y h
  exact fun_spec E_ok mixed (cs_lodgeref3_Requant_ok S N) (f := 58) (fi := ⟨b_lodgeref3_Requant, 36, Go.Proofs.Tryd.f58.results.toList⟩) (by kernel_rfl) (ls := []) (.nil) (by kernel_rfl) (ps := ps_lodgeref3_Requant) (rs := rs_lodgeref3_Requant) (Eq.trans (b := F_lodgeref3_Requant N x.1 x.2.1 x.2.2.1 x.2.2.2.1) (by kernel_rfl) h)

/-! lodge/lodgeref3.Value -/

abbrev ps_lodgeref3_Value : List Ty := [(.int .i64), .bool, (.int .i64), (.int .i64), (.sl (.int .i64))]
abbrev rs_lodgeref3_Value : List Slot := [.data (.int .i64)]
abbrev cs_lodgeref3_Value (N : Nat) : List CallSpec := [c_lodgeref3_Cut N, c_lodgeref3_kept N, c_lodgeref3_Requant N]
noncomputable abbrev b_lodgeref3_Value : Code := (Go.Proofs.Tryd.f26.body).getD .skip

def F_lodgeref3_Value (N : Nat) (op_0 : Int) (wide_1 : Bool) (x_2 : Int) (y_3 : Int) (args_4 : List Int) : Option (Int × Unit) :=
  cond (decide (op_0 = (4 : Int)))
    (
    Option.bind (F_lodgeref3_kept N (wi64 (x_2 + y_3)) wide_1) fun y0 =>
    some y0)
    (
    cond (decide (op_0 = (5 : Int)))
      (
      Option.bind (F_lodgeref3_kept N (wi64 (x_2 - y_3)) wide_1) fun y1 =>
      some y1)
      (
      cond (decide (op_0 = (6 : Int)))
        (
        Option.bind (F_lodgeref3_kept N (wi64 (x_2 * y_3)) wide_1) fun y2 =>
        some y2)
        (
        cond (decide (op_0 = (7 : Int)))
          (
          some ((Go.Eng.imax x_2 y_3), ()))
          (
          cond (decide (op_0 = (8 : Int)))
            (
            some ((Go.Eng.imax x_2 (0 : Int)), ()))
            (
            cond (decide (op_0 = (9 : Int)))
              (
              cond (decide (0 < (List.length args_4)))
                (
                cond (decide (1 < (List.length args_4)))
                  (
                  Option.bind (F_lodgeref3_Cut N x_2 (List.getD args_4 0 (0 : Int)) (List.getD args_4 1 (0 : Int))) fun y3 =>
                  some y3)
                  (
                  none))
                (
                none))
              (
              cond (decide (op_0 = (10 : Int)))
                (
                cond (decide (0 < (List.length args_4)))
                  (
                  cond (decide (1 < (List.length args_4)))
                    (
                    cond (decide (2 < (List.length args_4)))
                      (
                      Option.bind (F_lodgeref3_Requant N x_2 (List.getD args_4 0 (0 : Int)) (List.getD args_4 1 (0 : Int)) (List.getD args_4 2 (0 : Int))) fun y4 =>
                      some y4)
                      (
                      none))
                    (
                    none))
                  (
                  none))
                (
                cond (decide (op_0 = (11 : Int)))
                  (
                  cond (decide (0 < (List.length args_4)))
                    (
                    some ((wi64 (x_2 - (List.getD args_4 0 (0 : Int)))), ()))
                    (
                    none))
                  (
                  some ((0 : Int), ())))))))))

abbrev c_lodgeref3_Value (N : Nat) : CallSpec := ⟨26, ps_lodgeref3_Value, rs_lodgeref3_Value, fun x => F_lodgeref3_Value N x.1 x.2.1 x.2.2.1 x.2.2.2.1 x.2.2.2.2.1⟩

theorem cs_lodgeref3_Value_ok (S : Nat → Addr) (N : Nat) : CallsOK Go.Proofs.Tryd.prog E S (cs_lodgeref3_Value N) :=
  .cons (F_lodgeref3_Cut_ok S N) (.cons (F_lodgeref3_kept_ok S N) (.cons (F_lodgeref3_Requant_ok S N) (.nil)))
theorem F_lodgeref3_Value_ok (S : Nat → Addr) (N : Nat) : ∀ x y, (c_lodgeref3_Value N).g x = some y → FCon Go.Proofs.Tryd.prog E S 26 ps_lodgeref3_Value rs_lodgeref3_Value x y := by
  intro x y h
  exact fun_spec E_ok mixed (cs_lodgeref3_Value_ok S N) (f := 26) (fi := ⟨b_lodgeref3_Value, 72, Go.Proofs.Tryd.f26.results.toList⟩) (by kernel_rfl) (ls := []) (.nil) (by kernel_rfl) (ps := ps_lodgeref3_Value) (rs := rs_lodgeref3_Value) (Eq.trans (b := F_lodgeref3_Value N x.1 x.2.1 x.2.2.1 x.2.2.2.1 x.2.2.2.2.1) (by kernel_rfl) h)

/-! lodge/lodgelaw7.two -/

abbrev ps_lodgelaw7_two : List Ty := [(.int .i64)]
abbrev rs_lodgelaw7_two : List Slot := [.data .bool]
abbrev cs_lodgelaw7_two (N : Nat) : List CallSpec := []
noncomputable abbrev b_lodgelaw7_two : Code := (Go.Proofs.Tryd.f27.body).getD .skip

def F_lodgelaw7_two (N : Nat) (op_0 : Int) : Option (Bool × Unit) :=
  cond (decide ((4 : Int) ≤ op_0))
    (
    some ((decide (op_0 ≤ (7 : Int))), ()))
    (
    some (false, ()))

abbrev c_lodgelaw7_two (N : Nat) : CallSpec := ⟨27, ps_lodgelaw7_two, rs_lodgelaw7_two, fun x => F_lodgelaw7_two N x.1⟩

theorem cs_lodgelaw7_two_ok (S : Nat → Addr) (N : Nat) : CallsOK Go.Proofs.Tryd.prog E S (cs_lodgelaw7_two N) :=
  .nil
theorem F_lodgelaw7_two_ok (S : Nat → Addr) (N : Nat) : ∀ x y, (c_lodgelaw7_two N).g x = some y → FCon Go.Proofs.Tryd.prog E S 27 ps_lodgelaw7_two rs_lodgelaw7_two x y := by
  intro x y h
  exact fun_spec E_ok mixed (cs_lodgelaw7_two_ok S N) (f := 27) (fi := ⟨b_lodgelaw7_two, 9, Go.Proofs.Tryd.f27.results.toList⟩) (by kernel_rfl) (ls := []) (.nil) (by kernel_rfl) (ps := ps_lodgelaw7_two) (rs := rs_lodgelaw7_two) (Eq.trans (b := F_lodgelaw7_two N x.1) (by kernel_rfl) h)

/-! lodge/elem.One -/

abbrev ps_elem_One : List Ty := [(.int .i64), (.st (.pair (.st (.pair (.sl (.int .i64)) .bool)) (.sl (.int .i64)))), (.sl (.int .i64))]
abbrev rs_elem_One : List Slot := [.ag [.sl (.int .i64), .d .bool, .sl (.int .i64)], .data .err]
abbrev cs_elem_One (N : Nat) : List CallSpec := [c_elem_apply N]
noncomputable abbrev b_elem_One : Code := (Go.Proofs.Tryd.f21.body).getD .skip

def F_elem_One (N : Nat) (op_0 : Int) (a_1 : ((List Int × Bool) × List Int)) (args_2 : List Int) : Option ((List Int × (Bool × (List Int × Unit))) × (Er × Unit)) :=
  Option.bind (F_elem_apply N op_0 args_2 (a_1 :: ([] : List (((List Int) × Bool) × (List Int))))) fun y0 =>
  cond (decide ((List.length ((y0).1).1) = (List.length ((y0).1).1)))
    (
    cond (decide ((List.length ((((y0).1).2).2).1) = (List.length ((((y0).1).2).2).1)))
      (
      some y0)
      (
      none))
    (
    none)

abbrev c_elem_One (N : Nat) : CallSpec := ⟨21, ps_elem_One, rs_elem_One, fun x => F_elem_One N x.1 x.2.1 x.2.2.1⟩

theorem cs_elem_One_ok (S : Nat → Addr) (N : Nat) : CallsOK Go.Proofs.Tryd.prog E S (cs_elem_One N) :=
  .cons (F_elem_apply_ok S N) (.nil)
theorem F_elem_One_ok (S : Nat → Addr) (N : Nat) : ∀ x y, (c_elem_One N).g x = some y → FCon Go.Proofs.Tryd.prog E S 21 ps_elem_One rs_elem_One x y := by
  intro x y h
  exact fun_spec E_ok mixed (cs_elem_One_ok S N) (f := 21) (fi := ⟨b_elem_One, 15, Go.Proofs.Tryd.f21.results.toList⟩) (by kernel_rfl) (ls := []) (.nil) (by kernel_rfl) (ps := ps_elem_One) (rs := rs_elem_One) (Eq.trans (b := F_elem_One N x.1 x.2.1 x.2.2.1) (by kernel_rfl) h)

/-! lodge/lodgelaw7.ElemValues -/

abbrev ps_lodgelaw7_ElemValues : List Ty := [(.int .i64), (.int .i64), (.int .i64), .bool, (.int .i64), (.int .i64), (.int .i64)]
abbrev rs_lodgelaw7_ElemValues : List Slot := [.data .bool]
abbrev cs_lodgelaw7_ElemValues (N : Nat) : List CallSpec := [c_tens_Wide N, c_elem_Value N, c_elem_Two N, c_lodgelaw7_first N, c_lodgeworld_Number N, c_lodgeref3_Value N, c_lodgelaw7_two N, c_elem_One N]
noncomputable abbrev b_lodgelaw7_ElemValues : Code := (Go.Proofs.Tryd.f6.body).getD .skip

abbrev j_lodgelaw7_ElemValues : Joins := [(32, [(AX.normal, [.dead, .dead, .dead, .dead, .dead, .dead, .dead, .dead, .dead, .dead, .dead, .dead, .dead, .dead, .dead, .data .bool, .dead, .dead, .data (.int .i64), .dead, .dead, .box [.sl (.int .i64), .d .bool, .sl (.int .i64)], .data .err, .dead, .dead, .dead, .dead, .dead, .dead, .dead, .dead, .dead, .dead, .dead, .dead, .dead, .dead, .dead, .dead, .dead, .dead, .dead, .dead, .dead, .dead, .dead, .dead, .dead, .dead, .dead, .dead, .dead, .dead, .dead, .dead, .dead, .dead, .dead, .dead, .dead, .dead, .dead, .dead, .dead, .dead, .dead, .dead, .dead, .dead, .dead, .dead, .dead, .dead, .dead, .dead, .dead, .dead, .dead, .dead, .dead, .dead, .dead, .dead, .dead, .dead, .dead, .dead, .dead, .dead, .dead, .dead, .dead, .dead, .dead, .dead, .dead, .dead, .dead, .dead, .dead, .dead, .dead, .dead, .dead, .dead, .dead, .dead, .dead, .dead, .dead, .dead, .dead, .dead, .dead, .dead, .dead, .dead, .dead, .dead, .dead, .dead, .dead, .dead, .dead, .dead, .dead, .dead, .dead, .dead, .dead, .dead, .dead, .dead, .dead, .dead, .dead, .dead, .dead, .dead, .dead, .dead])]),
  (22, [(AX.normal, [.data (.int .i64), .data (.int .i64), .data (.int .i64), .data .bool, .dead, .dead, .dead, .dead, .dead, .dead, .dead, .dead, .dead, .dead, .dead, .data .bool, .sl (.int .i64), .data .bool, .dead, .dead, .dead, .dead, .dead, .dead, .dead, .dead, .dead, .dead, .dead, .dead, .dead, .dead, .dead, .dead, .dead, .dead, .dead, .dead, .dead, .dead, .dead, .dead, .dead, .dead, .dead, .dead, .dead, .dead, .dead, .dead, .dead, .dead, .dead, .dead, .dead, .dead, .dead, .dead, .dead, .dead, .dead, .dead, .dead, .dead, .dead, .dead, .dead, .dead, .dead, .dead, .dead, .data .bool, .dead, .dead, .dead, .dead, .dead, .dead, .dead, .dead, .dead, .dead, .dead, .dead, .dead, .dead, .dead, .dead, .dead, .dead, .dead, .dead, .dead, .dead, .dead, .dead, .dead, .dead, .dead, .dead, .dead, .dead, .dead, .dead, .dead, .dead, .dead, .dead, .dead, .dead, .dead, .dead, .dead, .dead, .dead, .dead, .dead, .dead, .dead, .dead, .dead, .dead, .dead, .dead, .dead, .dead, .dead, .dead, .dead, .dead, .dead, .dead, .dead, .dead, .dead, .dead, .dead, .dead, .dead, .dead, .dead])]),
  (11, [(AX.normal, [.data (.int .i64), .data (.int .i64), .data (.int .i64), .data .bool, .dead, .dead, .dead, .dead, .dead, .dead, .dead, .dead, .dead, .dead, .dead, .data .bool, .sl (.int .i64), .data .bool, .dead, .dead, .dead, .dead, .dead, .dead, .dead, .dead, .dead, .dead, .dead, .dead, .dead, .dead, .dead, .dead, .dead, .dead, .dead, .dead, .dead, .dead, .dead, .dead, .dead, .dead, .dead, .dead, .dead, .dead, .dead, .dead, .dead, .dead, .dead, .dead, .dead, .dead, .dead, .dead, .dead, .dead, .dead, .dead, .dead, .dead, .dead, .dead, .dead, .dead, .dead, .dead, .dead, .dead, .dead, .dead, .dead, .dead, .dead, .dead, .dead, .dead, .dead, .dead, .dead, .dead, .dead, .dead, .dead, .dead, .dead, .dead, .dead, .dead, .dead, .dead, .dead, .dead, .dead, .dead, .dead, .dead, .dead, .dead, .dead, .dead, .dead, .dead, .dead, .dead, .dead, .dead, .dead, .dead, .dead, .dead, .dead, .dead, .dead, .dead, .dead, .dead, .dead, .dead, .dead, .dead, .dead, .dead, .dead, .dead, .dead, .dead, .dead, .dead, .dead, .dead, .dead, .dead, .dead, .dead, .dead, .dead, .dead]), (AX.ret, [.dead, .dead, .dead, .dead, .dead, .dead, .dead, .dead, .dead, .dead, .dead, .dead, .dead, .dead, .data .bool, .dead, .dead, .dead, .dead, .dead, .dead, .dead, .dead, .dead, .dead, .dead, .dead, .dead, .dead, .dead, .dead, .dead, .dead, .dead, .dead, .dead, .dead, .dead, .dead, .dead, .dead, .dead, .dead, .dead, .dead, .dead, .dead, .dead, .dead, .dead, .dead, .dead, .dead, .dead, .dead, .dead, .dead, .dead, .dead, .dead, .dead, .dead, .dead, .dead, .dead, .dead, .dead, .dead, .dead, .dead, .dead, .dead, .dead, .dead, .dead, .dead, .dead, .dead, .dead, .dead, .dead, .dead, .dead, .dead, .dead, .dead, .dead, .dead, .dead, .dead, .dead, .dead, .dead, .dead, .dead, .dead, .dead, .dead, .dead, .dead, .dead, .dead, .dead, .dead, .dead, .dead, .dead, .dead, .dead, .dead, .dead, .dead, .dead, .dead, .dead, .dead, .dead, .dead, .dead, .dead, .dead, .dead, .dead, .dead, .dead, .dead, .dead, .dead, .dead, .dead, .dead, .dead, .dead, .dead, .dead, .dead, .dead, .dead, .dead, .dead, .dead])]),
  (5, [(AX.normal, [.data (.int .i64), .data (.int .i64), .data (.int .i64), .data .bool, .data (.int .i64), .data (.int .i64), .data (.int .i64), .dead, .dead, .dead, .dead, .dead, .dead, .dead, .dead, .data .bool, .dead, .dead, .dead, .dead, .dead, .dead, .dead, .dead, .dead, .dead, .dead, .dead, .dead, .dead, .dead, .dead, .dead, .dead, .dead, .dead, .dead, .dead, .dead, .dead, .dead, .dead, .dead, .dead, .dead, .dead, .dead, .dead, .dead, .dead, .dead, .dead, .dead, .dead, .dead, .dead, .dead, .dead, .dead, .dead, .dead, .dead, .dead, .dead, .dead, .dead, .dead, .dead, .dead, .dead, .dead, .dead, .dead, .dead, .dead, .dead, .dead, .dead, .dead, .dead, .dead, .dead, .dead, .dead, .dead, .dead, .dead, .dead, .dead, .dead, .dead, .dead, .dead, .dead, .dead, .dead, .dead, .dead, .dead, .dead, .dead, .dead, .dead, .dead, .dead, .dead, .dead, .dead, .dead, .dead, .dead, .dead, .dead, .dead, .dead, .dead, .dead, .dead, .dead, .dead, .dead, .dead, .dead, .dead, .dead, .dead, .dead, .dead, .dead, .dead, .dead, .dead, .dead, .dead, .dead, .dead, .dead, .dead, .dead, .dead, .dead])])]
def F_lodgelaw7_ElemValues (N : Nat) (op_0 : Int) (x_1 : Int) (y_2 : Int) (wide_3 : Bool) (p_4 : Int) (q_5 : Int) (r_6 : Int) : Option (Bool × Unit) :=
  Option.bind (F_lodgelaw7_first N) fun y0 =>
  cond (Bool.not (y0).1)
    (
    some (false, ()))
    (
    Option.bind (
        cond wide_3
          (
          Option.bind (F_tens_Wide N x_1) fun y1 =>
          Option.bind (F_tens_Wide N y_2) fun y2 =>
          some (op_0, ((y1).1, ((y2).1, (wide_3, (p_4, (q_5, (r_6, y0))))))))
          (
          Option.bind (F_lodgeworld_Number N x_1 (256 : Int)) fun y3 =>
          Option.bind (F_lodgeworld_Number N y_2 (256 : Int)) fun y4 =>
          some (op_0, ((wi64 ((y3).1 - (128 : Int))), ((wi64 ((y4).1 - (128 : Int))), (wide_3, (p_4, (q_5, (r_6, y0))))))))) fun y5 =>
    Option.bind (
        cond (decide ((y5).1 = (9 : Int)))
          (
          some (Sum.inl ((y5).1, (((y5).2).1, ((((y5).2).2).1, (((((y5).2).2).2).1, (((((((((y5).2).2).2).2).2).2).2).1, (((Go.Eng.imin ((y5).2).1 (((y5).2).2).1) :: ((Go.Eng.imax ((y5).2).1 (((y5).2).2).1) :: ([] : List Int))), (((((y5).2).2).2).1, ())))))))))
          (
          cond (decide ((y5).1 = (10 : Int)))
            (
            Option.bind (F_lodgeworld_Number N (((((y5).2).2).2).2).1 (2147483648 : Int)) fun y6 =>
            Option.bind (F_lodgeworld_Number N ((((((y5).2).2).2).2).2).1 (63 : Int)) fun y7 =>
            Option.bind (F_lodgeworld_Number N (((((((y5).2).2).2).2).2).2).1 (256 : Int)) fun y8 =>
            some (Sum.inl ((y5).1, (((y5).2).1, ((((y5).2).2).1, (((((y5).2).2).2).1, (((((((((y5).2).2).2).2).2).2).2).1, (((y6).1 :: ((y7).1 :: ((wi64 ((y8).1 - (128 : Int))) :: ([] : List Int)))), (true, ())))))))))
            (
            cond (decide ((y5).1 = (11 : Int)))
              (
              Option.bind (F_lodgeworld_Number N (((((((y5).2).2).2).2).2).2).1 (256 : Int)) fun y9 =>
              cond ((((y5).2).2).2).1
                (
                some (Sum.inr (((((((y5).2).2).2).2).2).2).2))
                (
                some (Sum.inl ((y5).1, (((y5).2).1, ((((y5).2).2).1, (((((y5).2).2).2).1, (((((((((y5).2).2).2).2).2).2).2).1, (((wi64 ((y9).1 - (128 : Int))) :: ([] : List Int)), (false, ()))))))))))
              (
              some (Sum.inl ((y5).1, (((y5).2).1, ((((y5).2).2).1, (((((y5).2).2).2).1, (((((((((y5).2).2).2).2).2).2).2).1, (([] : List Int), (((((y5).2).2).2).1, ())))))))))))) fun y10 =>
    Sum.elim (fun y11 =>
      Option.bind (
          cond (decide ((y11).1 < (4 : Int)))
            (
            cond (decide ((List.length ((((((y11).2).2).2).2).2).1) = (List.length ((((((y11).2).2).2).2).2).1)))
              (
              some ((y11).1, (((y11).2).1, ((((y11).2).2).1, (((((y11).2).2).2).1, ((((((y11).2).2).2).2).1, (((((((y11).2).2).2).2).2).1, ((((((((y11).2).2).2).2).2).2).1, (true, ())))))))))
              (
              none))
            (
            cond (decide ((List.length ((((((y11).2).2).2).2).2).1) = (List.length ((((((y11).2).2).2).2).2).1)))
              (
              some ((y11).1, (((y11).2).1, ((((y11).2).2).1, (((((y11).2).2).2).1, ((((((y11).2).2).2).2).1, (((((((y11).2).2).2).2).2).1, ((((((((y11).2).2).2).2).2).2).1, ((decide ((11 : Int) < (y11).1)), ())))))))))
              (
              none))) fun y12 =>
      cond ((((((((y12).2).2).2).2).2).2).2).1
        (
        cond (((((y12).2).2).2).2).1
          (
          cond (decide (((0 : Nat) + (List.length ((((((y12).2).2).2).2).2).1)) ≤ (List.length ((((((y12).2).2).2).2).2).1)))
            (
            Option.bind (F_elem_Value N (y12).1 ((((y12).2).2).2).1 ((y12).2).1 (((y12).2).2).1 (List.take (List.length ((((((y12).2).2).2).2).2).1) ((((((y12).2).2).2).2).2).1)) fun y13 =>
            some ((decide ((y13).1 = (0 : Int))), ()))
            (
            none))
          (
          some (false, ())))
        (
        cond (decide (((0 : Nat) + (List.length ((((((y12).2).2).2).2).2).1)) ≤ (List.length ((((((y12).2).2).2).2).2).1)))
          (
          Option.bind (F_elem_Value N (y12).1 (((((((y12).2).2).2).2).2).2).1 ((y12).2).1 (((y12).2).2).1 (List.take (List.length ((((((y12).2).2).2).2).2).1) ((((((y12).2).2).2).2).2).1)) fun y14 =>
          cond (decide (((0 : Nat) + (List.length ((((((y12).2).2).2).2).2).1)) ≤ (List.length ((((((y12).2).2).2).2).2).1)))
            (
            Option.bind (F_lodgeref3_Value N (y12).1 (((((((y12).2).2).2).2).2).2).1 ((y12).2).1 (((y12).2).2).1 (List.take (List.length ((((((y12).2).2).2).2).2).1) ((((((y12).2).2).2).2).2).1)) fun y15 =>
            cond (decide (@Ne Int (y14).1 (y15).1))
              (
              some (false, ()))
              (
              Option.bind (
                  Option.bind (F_lodgelaw7_two N (y12).1) fun y16 =>
                  cond (y16).1
                    (
                    Option.bind (F_elem_Two N (y12).1 ((([] : List Int), (((((((y12).2).2).2).2).2).2).1), (((y12).2).1 :: ([] : List Int))) ((([] : List Int), (((((((y12).2).2).2).2).2).2).1), ((((y12).2).2).1 :: ([] : List Int)))) fun y17 =>
                    cond (decide ((List.length ((y17).1).1) = (List.length ((y17).1).1)))
                      (
                      cond (decide ((List.length ((((y17).1).2).2).1) = (List.length ((((y17).1).2).2).1)))
                        (
                        some ((((((y12).2).2).2).2).1, ((y14).1, y17)))
                        (
                        none))
                      (
                      none))
                    (
                    cond (decide (((0 : Nat) + (List.length ((((((y12).2).2).2).2).2).1)) ≤ (List.length ((((((y12).2).2).2).2).2).1)))
                      (
                      Option.bind (F_elem_One N (y12).1 ((([] : List Int), (((((((y12).2).2).2).2).2).2).1), (((y12).2).1 :: ([] : List Int))) (List.take (List.length ((((((y12).2).2).2).2).2).1) ((((((y12).2).2).2).2).2).1)) fun y18 =>
                      cond (decide ((List.length ((y18).1).1) = (List.length ((y18).1).1)))
                        (
                        cond (decide ((List.length ((((y18).1).2).2).1) = (List.length ((((y18).1).2).2).1)))
                          (
                          some ((((((y12).2).2).2).2).1, ((y14).1, y18)))
                          (
                          none))
                        (
                        none))
                      (
                      none))) fun y19 =>
              cond (y19).1
                (
                cond (Go.Eng.Er.isNil ((((y19).2).2).2).1)
                  (
                  cond (decide ((Nat.cast (List.length ((((((y19).2).2).1).2).2).1) : Int) = (1 : Int)))
                    (
                    cond (decide (0 < (List.length ((((((y19).2).2).1).2).2).1)))
                      (
                      cond (decide (((0 : Nat) + 0) < (List.length ((((((y19).2).2).1).2).2).1)))
                        (
                        some ((decide ((List.getD ((((((y19).2).2).1).2).2).1 ((0 : Nat) + 0) (0 : Int)) = ((y19).2).1)), ()))
                        (
                        none))
                      (
                      none))
                    (
                    some (false, ())))
                  (
                  some (false, ())))
                (
                some (false, ()))))
            (
            none))
          (
          none)))
      (fun y20 =>
      some y20) y10)

abbrev c_lodgelaw7_ElemValues (N : Nat) : CallSpec := ⟨6, ps_lodgelaw7_ElemValues, rs_lodgelaw7_ElemValues, fun x => F_lodgelaw7_ElemValues N x.1 x.2.1 x.2.2.1 x.2.2.2.1 x.2.2.2.2.1 x.2.2.2.2.2.1 x.2.2.2.2.2.2.1⟩

theorem cs_lodgelaw7_ElemValues_ok (S : Nat → Addr) (N : Nat) : CallsOK Go.Proofs.Tryd.prog E S (cs_lodgelaw7_ElemValues N) :=
  .cons (F_tens_Wide_ok S N) (.cons (F_elem_Value_ok S N) (.cons (F_elem_Two_ok S N) (.cons (F_lodgelaw7_first_ok S N) (.cons (F_lodgeworld_Number_ok S N) (.cons (F_lodgeref3_Value_ok S N) (.cons (F_lodgelaw7_two_ok S N) (.cons (F_elem_One_ok S N) (.nil))))))))
theorem F_lodgelaw7_ElemValues_ok (S : Nat → Addr) (N : Nat) : ∀ x y, (c_lodgelaw7_ElemValues N).g x = some y → FCon Go.Proofs.Tryd.prog E S 6 ps_lodgelaw7_ElemValues rs_lodgelaw7_ElemValues x y := by
  intro x y h
  exact fun_specJ E_ok mixed (cs_lodgelaw7_ElemValues_ok S N) (f := 6) (fi := ⟨b_lodgelaw7_ElemValues, 141, Go.Proofs.Tryd.f6.results.toList⟩) (by kernel_rfl) (ls := []) (.nil) (js := j_lodgelaw7_ElemValues) (by kernel_rfl) (ps := ps_lodgelaw7_ElemValues) (rs := rs_lodgelaw7_ElemValues) (Eq.trans (b := F_lodgelaw7_ElemValues N x.1 x.2.1 x.2.2.1 x.2.2.2.1 x.2.2.2.2.1 x.2.2.2.2.2.1 x.2.2.2.2.2.2.1) (by kernel_rfl) h)

/-! lodge/lodgeref.SameDesc -/

abbrev ps_lodgeref_SameDesc : List Ty := [(.st (.pair (.sl (.int .i64)) .bool)), (.st (.pair (.sl (.int .i64)) .bool))]
abbrev rs_lodgeref_SameDesc : List Slot := [.data .bool]
abbrev cs_lodgeref_SameDesc (N : Nat) : List CallSpec := [c_lodgeref_SameInts N]
noncomputable abbrev b_lodgeref_SameDesc : Code := (Go.Proofs.Tryd.f14.body).getD .skip

def F_lodgeref_SameDesc (N : Nat) (a_0 : (List Int × Bool)) (b_1 : (List Int × Bool)) : Option (Bool × Unit) :=
  Option.bind (F_lodgeref_SameInts N (a_0).1 (b_1).1) fun y0 =>
  cond (y0).1
    (
    some (((a_0).2 == (b_1).2), ()))
    (
    some (false, ()))

abbrev c_lodgeref_SameDesc (N : Nat) : CallSpec := ⟨14, ps_lodgeref_SameDesc, rs_lodgeref_SameDesc, fun x => F_lodgeref_SameDesc N x.1 x.2.1⟩

theorem cs_lodgeref_SameDesc_ok (S : Nat → Addr) (N : Nat) : CallsOK Go.Proofs.Tryd.prog E S (cs_lodgeref_SameDesc N) :=
  .cons (F_lodgeref_SameInts_ok S N) (.nil)
theorem F_lodgeref_SameDesc_ok (S : Nat → Addr) (N : Nat) : ∀ x y, (c_lodgeref_SameDesc N).g x = some y → FCon Go.Proofs.Tryd.prog E S 14 ps_lodgeref_SameDesc rs_lodgeref_SameDesc x y := by
  intro x y h
  exact fun_spec E_ok mixed (cs_lodgeref_SameDesc_ok S N) (f := 14) (fi := ⟨b_lodgeref_SameDesc, 19, Go.Proofs.Tryd.f14.results.toList⟩) (by kernel_rfl) (ls := []) (.nil) (by kernel_rfl) (ps := ps_lodgeref_SameDesc) (rs := rs_lodgeref_SameDesc) (Eq.trans (b := F_lodgeref_SameDesc N x.1 x.2.1) (by kernel_rfl) h)

/-! lodge/lodgeref.SameTensor -/

abbrev ps_lodgeref_SameTensor : List Ty := [(.st (.pair (.st (.pair (.sl (.int .i64)) .bool)) (.sl (.int .i64)))), (.st (.pair (.st (.pair (.sl (.int .i64)) .bool)) (.sl (.int .i64))))]
abbrev rs_lodgeref_SameTensor : List Slot := [.data .bool]
abbrev cs_lodgeref_SameTensor (N : Nat) : List CallSpec := [c_lodgeref_SameInts N, c_lodgeref_SameDesc N]
noncomputable abbrev b_lodgeref_SameTensor : Code := (Go.Proofs.Tryd.f25.body).getD .skip

def F_lodgeref_SameTensor (N : Nat) (a_0 : ((List Int × Bool) × List Int)) (b_1 : ((List Int × Bool) × List Int)) : Option (Bool × Unit) :=
  Option.bind (F_lodgeref_SameDesc N (a_0).1 (b_1).1) fun y0 =>
  Option.bind (F_lodgeref_SameInts N (a_0).2 (b_1).2) fun y1 =>
  cond (y0).1
    (
    some y1)
    (
    some (false, ()))

abbrev c_lodgeref_SameTensor (N : Nat) : CallSpec := ⟨25, ps_lodgeref_SameTensor, rs_lodgeref_SameTensor, fun x => F_lodgeref_SameTensor N x.1 x.2.1⟩

theorem cs_lodgeref_SameTensor_ok (S : Nat → Addr) (N : Nat) : CallsOK Go.Proofs.Tryd.prog E S (cs_lodgeref_SameTensor N) :=
  .cons (F_lodgeref_SameInts_ok S N) (.cons (F_lodgeref_SameDesc_ok S N) (.nil))
theorem F_lodgeref_SameTensor_ok (S : Nat → Addr) (N : Nat) : ∀ x y, (c_lodgeref_SameTensor N).g x = some y → FCon Go.Proofs.Tryd.prog E S 25 ps_lodgeref_SameTensor rs_lodgeref_SameTensor x y := by
  intro x y h
  exact fun_spec E_ok mixed (cs_lodgeref_SameTensor_ok S N) (f := 25) (fi := ⟨b_lodgeref_SameTensor, 21, Go.Proofs.Tryd.f25.results.toList⟩) (by kernel_rfl) (ls := []) (.nil) (by kernel_rfl) (ps := ps_lodgeref_SameTensor) (rs := rs_lodgeref_SameTensor) (Eq.trans (b := F_lodgeref_SameTensor N x.1 x.2.1) (by kernel_rfl) h)

/-! lodge/lodgelaw7.ElemScales -/

abbrev ps_lodgelaw7_ElemScales : List Ty := [(.sl (.int .i64)), (.int .i64), (.int .i64), (.int .i64)]
abbrev rs_lodgelaw7_ElemScales : List Slot := [.data .bool]
abbrev cs_lodgelaw7_ElemScales (N : Nat) : List CallSpec := [c_quant_Requant N, c_lodgelaw7_first N, c_lodgeworld_Number N, c_elem_One N, c_lodgeref_SameTensor N]
noncomputable abbrev b_lodgelaw7_ElemScales : Code := (Go.Proofs.Tryd.f7.body).getD .skip

abbrev h_lodgelaw7_ElemScales_0 : List Slot := [.data (.sl (.int .i64)), .data (.int .i64), .data (.int .i64), .data (.int .i64), .dead, .dead, .dead, .dead, .dead, .dead, .box [.sl (.int .i64), .d .bool, .sl (.int .i64)], .data (.int .i64), .dead, .dead, .dead, .dead, .dead, .dead, .dead, .dead, .dead, .dead, .dead, .dead, .dead, .dead, .dead, .dead, .dead, .dead, .dead, .dead, .dead, .dead, .dead, .dead, .dead, .dead, .dead, .dead, .dead, .dead, .dead, .dead, .dead, .dead, .dead, .dead, .dead, .dead, .dead, .dead, .dead, .dead, .dead, .dead, .dead, .dead, .dead, .dead, .dead, .dead, .dead, .dead, .dead, .dead, .dead, .dead, .dead, .dead, .dead, .dead, .dead, .dead, .dead, .dead, .dead, .dead, .dead, .dead, .dead, .dead, .dead, .dead, .dead, .dead, .dead, .dead, .dead, .dead, .dead, .dead, .dead, .dead, .dead, .dead, .dead, .dead, .dead, .dead, .dead, .dead, .dead, .dead, .dead, .dead, .dead, .dead, .dead, .dead, .dead, .dead, .dead, .dead, .dead, .dead, .dead, .dead, .dead, .dead, .dead, .dead, .dead, .dead, .dead, .dead, .dead, .dead, .dead, .dead, .dead, .dead, .dead, .dead, .dead, .dead, .dead]
abbrev e_lodgelaw7_ElemScales_0 : List (AX × List Slot) := [(AX.exit 0, [.data (.sl (.int .i64)), .data (.int .i64), .data (.int .i64), .data (.int .i64), .dead, .dead, .dead, .dead, .dead, .dead, .box [.sl (.int .i64), .d .bool, .sl (.int .i64)], .dead, .dead, .dead, .dead, .dead, .dead, .dead, .dead, .dead, .dead, .dead, .dead, .dead, .dead, .dead, .dead, .dead, .dead, .dead, .dead, .dead, .dead, .dead, .dead, .dead, .dead, .dead, .dead, .dead, .dead, .dead, .dead, .dead, .dead, .dead, .dead, .dead, .dead, .dead, .dead, .dead, .dead, .dead, .dead, .dead, .dead, .dead, .dead, .dead, .dead, .dead, .dead, .dead, .dead, .dead, .dead, .dead, .dead, .dead, .dead, .dead, .dead, .dead, .dead, .dead, .dead, .dead, .dead, .dead, .dead, .dead, .dead, .dead, .dead, .dead, .dead, .dead, .dead, .dead, .dead, .dead, .dead, .dead, .dead, .dead, .dead, .dead, .dead, .dead, .dead, .dead, .dead, .dead, .dead, .dead, .dead, .dead, .dead, .dead, .dead, .dead, .dead, .dead, .dead, .dead, .dead, .dead, .dead, .dead, .dead, .dead, .dead, .dead, .dead, .dead, .dead, .dead, .dead, .dead, .dead, .dead, .dead, .dead, .dead, .dead, .dead])]
def g_lodgelaw7_ElemScales_0 (N : Nat) : Nat → List Int → Int → Int → Int → (List Int × (Bool × (List Int × Unit))) → Int → Option (List Int × (Int × (Int × (Int × ((List Int × (Bool × (List Int × Unit))) × Unit)))))
  | 0, _, _, _, _, _, _ => none
  | n + 1, l_0, zero_1, mult_2, shift_3, a_10, i_11 =>
    cond (decide (i_11 < (Nat.cast (List.length l_0) : Int)))
      (
      cond (decide ((0 : Int) ≤ i_11))
        (
        cond (decide ((Int.toNat i_11) < (List.length l_0)))
          (
          Option.bind (F_lodgeworld_Number N (List.getD l_0 (Int.toNat i_11) (0 : Int)) (256 : Int)) fun y5 =>
          cond (decide (((0 : Nat) + (List.length (((a_10).2).2).1)) = (List.length (((a_10).2).2).1)))
            (
            cond (decide ((((List.length (((a_10).2).2).1) + 1) * (8 + (1 : Nat))) ≤ Go.Eng.most))
              (
              cond (decide ((List.length (a_10).1) = (List.length (a_10).1)))
                (
                cond (decide (((List.length (((a_10).2).2).1) + 1) = (List.length ((List.take (List.length (((a_10).2).2).1) (((a_10).2).2).1) ++ ((wi64 ((y5).1 - (128 : Int))) :: ([] : List Int))))))
                  (
                  (g_lodgelaw7_ElemScales_0 N n l_0 zero_1 mult_2 shift_3 ((a_10).1, (((a_10).2).1, (((List.take (List.length (((a_10).2).2).1) (((a_10).2).2).1) ++ ((wi64 ((y5).1 - (128 : Int))) :: ([] : List Int))), ()))) (wi64 (i_11 + (1 : Int)))))
                  (
                  none))
                (
                none))
              (
              none))
            (
            none))
          (
          none))
        (
        none))
      (
      cond (decide ((List.length (a_10).1) = (List.length (a_10).1)))
        (
        cond (decide ((List.length (((a_10).2).2).1) = (List.length (((a_10).2).2).1)))
          (
          some (l_0, (zero_1, (mult_2, (shift_3, (a_10, ()))))))
          (
          none))
        (
        none))

abbrev h_lodgelaw7_ElemScales_1 : List Slot := [.data (.sl (.int .i64)), .data (.int .i64), .data (.int .i64), .data (.int .i64), .dead, .dead, .dead, .dead, .dead, .dead, .box [.d (.st (.pair (.st (.pair (.sl (.int .i64)) .bool)) (.sl (.int .i64))))], .dead, .dead, .dead, .dead, .dead, .box [.sl (.int .i64), .d .bool, .sl (.int .i64)], .dead, .data (.int .i64), .dead, .dead, .dead, .dead, .dead, .dead, .dead, .dead, .dead, .dead, .dead, .dead, .dead, .dead, .dead, .dead, .dead, .dead, .dead, .dead, .dead, .dead, .dead, .dead, .dead, .dead, .dead, .dead, .dead, .dead, .dead, .dead, .dead, .dead, .dead, .dead, .dead, .dead, .dead, .dead, .dead, .dead, .dead, .dead, .dead, .dead, .dead, .dead, .dead, .dead, .dead, .dead, .dead, .dead, .dead, .dead, .dead, .dead, .dead, .dead, .dead, .dead, .dead, .dead, .dead, .dead, .dead, .dead, .dead, .dead, .dead, .dead, .dead, .dead, .dead, .dead, .dead, .dead, .dead, .dead, .dead, .dead, .dead, .dead, .dead, .dead, .dead, .dead, .dead, .dead, .dead, .dead, .dead, .dead, .dead, .dead, .dead, .dead, .dead, .dead, .dead, .dead, .dead, .dead, .dead, .dead, .dead, .dead, .dead, .dead, .dead, .dead, .dead, .dead, .dead, .dead, .dead, .dead]
abbrev e_lodgelaw7_ElemScales_1 : List (AX × List Slot) := [(AX.exit 2, [.dead, .dead, .dead, .dead, .dead, .dead, .dead, .dead, .dead, .dead, .dead, .dead, .dead, .dead, .dead, .dead, .dead, .dead, .dead, .dead, .dead, .dead, .dead, .dead, .dead, .dead, .dead, .dead, .dead, .dead, .dead, .dead, .dead, .dead, .dead, .dead, .dead, .dead, .dead, .dead, .dead, .dead, .dead, .dead, .dead, .dead, .dead, .dead, .dead, .dead, .dead, .dead, .dead, .dead, .dead, .dead, .dead, .dead, .dead, .dead, .dead, .dead, .dead, .dead, .dead, .dead, .dead, .dead, .dead, .dead, .dead, .dead, .dead, .dead, .dead, .dead, .dead, .dead, .dead, .dead, .dead, .dead, .dead, .dead, .dead, .dead, .dead, .dead, .dead, .dead, .dead, .dead, .dead, .dead, .dead, .dead, .dead, .dead, .dead, .dead, .dead, .dead, .dead, .dead, .dead, .dead, .dead, .dead, .dead, .dead, .dead, .dead, .dead, .dead, .dead, .dead, .dead, .dead, .dead, .dead, .dead, .dead, .dead, .dead, .dead, .dead, .dead, .dead, .dead, .dead, .dead, .dead, .dead, .dead, .dead, .dead, .dead]), (AX.ret, [.dead, .dead, .dead, .dead, .dead, .dead, .dead, .dead, .data .bool, .dead, .dead, .dead, .dead, .dead, .dead, .dead, .dead, .dead, .dead, .dead, .dead, .dead, .dead, .dead, .dead, .dead, .dead, .dead, .dead, .dead, .dead, .dead, .dead, .dead, .dead, .dead, .dead, .dead, .dead, .dead, .dead, .dead, .dead, .dead, .dead, .dead, .dead, .dead, .dead, .dead, .dead, .dead, .dead, .dead, .dead, .dead, .dead, .dead, .dead, .dead, .dead, .dead, .dead, .dead, .dead, .dead, .dead, .dead, .dead, .dead, .dead, .dead, .dead, .dead, .dead, .dead, .dead, .dead, .dead, .dead, .dead, .dead, .dead, .dead, .dead, .dead, .dead, .dead, .dead, .dead, .dead, .dead, .dead, .dead, .dead, .dead, .dead, .dead, .dead, .dead, .dead, .dead, .dead, .dead, .dead, .dead, .dead, .dead, .dead, .dead, .dead, .dead, .dead, .dead, .dead, .dead, .dead, .dead, .dead, .dead, .dead, .dead, .dead, .dead, .dead, .dead, .dead, .dead, .dead, .dead, .dead, .dead, .dead, .dead, .dead, .dead, .dead])]
def g_lodgelaw7_ElemScales_1 (N : Nat) : Nat → List Int → Int → Int → Int → (((List Int × Bool) × List Int) × Unit) → (List Int × (Bool × (List Int × Unit))) → Int → Option (Sum Unit (Bool × Unit))
  | 0, _, _, _, _, _, _, _ => none
  | n + 1, l_0, zero_1, mult_2, shift_3, a_10, c_16, i_18 =>
    cond (decide (i_18 < (Nat.cast (List.length l_0) : Int)))
      (
      cond (decide ((0 : Int) ≤ i_18))
        (
        cond (decide ((Int.toNat i_18) < (List.length (((c_16).2).2).1)))
          (
          cond (decide (((0 : Nat) + (Int.toNat i_18)) < (List.length (((c_16).2).2).1)))
            (
            cond (decide ((0 : Int) ≤ i_18))
              (
              cond (decide ((Int.toNat i_18) < (List.length ((a_10).1).2)))
                (
                Option.bind (F_quant_Requant N (wi64 ((List.getD ((a_10).1).2 (Int.toNat i_18) (0 : Int)) - zero_1)) mult_2 shift_3 zero_1) fun y12 =>
                cond (decide (@Ne Int (List.getD (((c_16).2).2).1 ((0 : Nat) + (Int.toNat i_18)) (0 : Int)) (y12).1))
                  (
                  some (Sum.inr (false, ())))
                  (
                  cond (decide ((List.length (c_16).1) = (List.length (c_16).1)))
                    (
                    cond (decide ((List.length (((c_16).2).2).1) = (List.length (((c_16).2).2).1)))
                      (
                      (g_lodgelaw7_ElemScales_1 N n l_0 zero_1 mult_2 shift_3 a_10 c_16 (wi64 (i_18 + (1 : Int)))))
                      (
                      none))
                    (
                    none)))
                (
                none))
              (
              none))
            (
            none))
          (
          none))
        (
        none))
      (
      some (Sum.inl ()))

def F_lodgelaw7_ElemScales (N : Nat) (l_0 : List Int) (zero_1 : Int) (mult_2 : Int) (shift_3 : Int) : Option (Bool × Unit) :=
  Option.bind (F_lodgelaw7_first N) fun y0 =>
  cond (Bool.not (y0).1)
    (
    some (false, ()))
    (
    cond (decide ((100 : Int) < (Nat.cast (List.length l_0) : Int)))
      (
      some y0)
      (
      cond (decide ((Nat.cast (List.length l_0) : Int) = (0 : Int)))
        (
        some y0)
        (
        cond (Bool.not (y0).1)
          (
          some y0)
          (
          Option.bind (F_lodgeworld_Number N zero_1 (256 : Int)) fun y1 =>
          Option.bind (F_lodgeworld_Number N mult_2 (2147483648 : Int)) fun y2 =>
          Option.bind (F_lodgeworld_Number N shift_3 (63 : Int)) fun y3 =>
          Option.bind (g_lodgelaw7_ElemScales_0 N N l_0 (wi64 ((y1).1 - (128 : Int))) (y2).1 (y3).1 (((Nat.cast (List.length l_0) : Int) :: ([] : List Int)), (false, (([] : List Int), ()))) (0 : Int)) fun y4 =>
          cond (decide (((0 : Nat) + (List.length ((((((y4).2).2).2).2).1).1)) ≤ (List.length ((((((y4).2).2).2).2).1).1)))
            (
            cond (decide (((0 : Nat) + (List.length ((((((((y4).2).2).2).2).1).2).2).1)) ≤ (List.length ((((((((y4).2).2).2).2).1).2).2).1)))
              (
              Option.bind (F_elem_One N (11 : Int) (((List.take (List.length ((((((y4).2).2).2).2).1).1) ((((((y4).2).2).2).2).1).1), (((((((y4).2).2).2).2).1).2).1), (List.take (List.length ((((((((y4).2).2).2).2).1).2).2).1) ((((((((y4).2).2).2).2).1).2).2).1)) (((y4).2).1 :: ([] : List Int))) fun y5 =>
              cond (decide (((0 : Nat) + (List.length ((y5).1).1)) ≤ (List.length ((y5).1).1)))
                (
                cond (decide (((0 : Nat) + (List.length ((((y5).1).2).2).1)) ≤ (List.length ((((y5).1).2).2).1)))
                  (
                  Option.bind (F_elem_One N (10 : Int) (((List.take (List.length ((y5).1).1) ((y5).1).1), (((y5).1).2).1), (List.take (List.length ((((y5).1).2).2).1) ((((y5).1).2).2).1)) ((1073741824 : Int) :: ((30 : Int) :: (((y4).2).1 :: ([] : List Int))))) fun y6 =>
                  cond (decide (((0 : Nat) + (List.length ((y5).1).1)) ≤ (List.length ((y5).1).1)))
                    (
                    cond (decide (((0 : Nat) + (List.length ((((y5).1).2).2).1)) ≤ (List.length ((((y5).1).2).2).1)))
                      (
                      Option.bind (F_elem_One N (10 : Int) (((List.take (List.length ((y5).1).1) ((y5).1).1), (((y5).1).2).1), (List.take (List.length ((((y5).1).2).2).1) ((((y5).1).2).2).1)) ((((y4).2).2).1 :: (((((y4).2).2).2).1 :: (((y4).2).1 :: ([] : List Int))))) fun y7 =>
                      cond (Bool.not (Go.Eng.Er.isNil ((y5).2).1))
                        (
                        some (false, ()))
                        (
                        cond (Bool.not (Go.Eng.Er.isNil ((y6).2).1))
                          (
                          some (false, ()))
                          (
                          cond (Bool.not (Go.Eng.Er.isNil ((y7).2).1))
                            (
                            some (false, ()))
                            (
                            cond (Bool.not (((y5).1).2).1)
                              (
                              some (false, ()))
                              (
                              cond (((y6).1).2).1
                                (
                                some (false, ()))
                                (
                                cond (decide (((0 : Nat) + (List.length ((((((y4).2).2).2).2).1).1)) ≤ (List.length ((((((y4).2).2).2).2).1).1)))
                                  (
                                  cond (decide (((0 : Nat) + (List.length ((((((((y4).2).2).2).2).1).2).2).1)) ≤ (List.length ((((((((y4).2).2).2).2).1).2).2).1)))
                                    (
                                    cond (decide (((0 : Nat) + (List.length ((y6).1).1)) ≤ (List.length ((y6).1).1)))
                                      (
                                      cond (decide (((0 : Nat) + (List.length ((((y6).1).2).2).1)) ≤ (List.length ((((y6).1).2).2).1)))
                                        (
                                        Option.bind (F_lodgeref_SameTensor N (((List.take (List.length ((((((y4).2).2).2).2).1).1) ((((((y4).2).2).2).2).1).1), (((((((y4).2).2).2).2).1).2).1), (List.take (List.length ((((((((y4).2).2).2).2).1).2).2).1) ((((((((y4).2).2).2).2).1).2).2).1)) (((List.take (List.length ((y6).1).1) ((y6).1).1), (((y6).1).2).1), (List.take (List.length ((((y6).1).2).2).1) ((((y6).1).2).2).1))) fun y8 =>
                                        cond (Bool.not (y8).1)
                                          (
                                          some (false, ()))
                                          (
                                          cond (decide (((0 : Nat) + (List.length ((((((y4).2).2).2).2).1).1)) ≤ (List.length ((((((y4).2).2).2).2).1).1)))
                                            (
                                            cond (decide (((0 : Nat) + (List.length ((((((((y4).2).2).2).2).1).2).2).1)) ≤ (List.length ((((((((y4).2).2).2).2).1).2).2).1)))
                                              (
                                              cond (decide (((0 : Nat) + (List.length ((((((y4).2).2).2).2).1).1)) ≤ (List.length ((((((y4).2).2).2).2).1).1)))
                                                (
                                                cond (decide (((0 : Nat) + (List.length ((((((((y4).2).2).2).2).1).2).2).1)) ≤ (List.length ((((((((y4).2).2).2).2).1).2).2).1)))
                                                  (
                                                  cond (decide ((List.length ((y7).1).1) = (List.length ((y7).1).1)))
                                                    (
                                                    cond (decide ((List.length ((((y7).1).2).2).1) = (List.length ((((y7).1).2).2).1)))
                                                      (
                                                      Option.bind (g_lodgelaw7_ElemScales_1 N N (y4).1 ((y4).2).1 (((y4).2).2).1 ((((y4).2).2).2).1 ((((List.take (List.length ((((((y4).2).2).2).2).1).1) ((((((y4).2).2).2).2).1).1), (((((((y4).2).2).2).2).1).2).1), (List.take (List.length ((((((((y4).2).2).2).2).1).2).2).1) ((((((((y4).2).2).2).2).1).2).2).1)), ()) (y7).1 (0 : Int)) fun y9 =>
                                                      Sum.elim (fun y10 =>
                                                        some (true, ()))
                                                        (fun y11 =>
                                                        some y11) y9)
                                                      (
                                                      none))
                                                    (
                                                    none))
                                                  (
                                                  none))
                                                (
                                                none))
                                              (
                                              none))
                                            (
                                            none)))
                                        (
                                        none))
                                      (
                                      none))
                                    (
                                    none))
                                  (
                                  none)))))))
                      (
                      none))
                    (
                    none))
                  (
                  none))
                (
                none))
              (
              none))
            (
            none)))))

abbrev c_lodgelaw7_ElemScales (N : Nat) : CallSpec := ⟨7, ps_lodgelaw7_ElemScales, rs_lodgelaw7_ElemScales, fun x => F_lodgelaw7_ElemScales N x.1 x.2.1 x.2.2.1 x.2.2.2.1⟩
abbrev l_lodgelaw7_ElemScales_1 (N : Nat) : LoopSpec := ⟨1, h_lodgelaw7_ElemScales_1, e_lodgelaw7_ElemScales_1, fun x => g_lodgelaw7_ElemScales_1 N N x.1 x.2.1 x.2.2.1 x.2.2.2.1 x.2.2.2.2.1 x.2.2.2.2.2.1 x.2.2.2.2.2.2.1⟩
abbrev l_lodgelaw7_ElemScales_0 (N : Nat) : LoopSpec := ⟨0, h_lodgelaw7_ElemScales_0, e_lodgelaw7_ElemScales_0, fun x => g_lodgelaw7_ElemScales_0 N N x.1 x.2.1 x.2.2.1 x.2.2.2.1 x.2.2.2.2.1 x.2.2.2.2.2.1⟩

theorem cs_lodgelaw7_ElemScales_ok (S : Nat → Addr) (N : Nat) : CallsOK Go.Proofs.Tryd.prog E S (cs_lodgelaw7_ElemScales N) :=
  .cons (F_quant_Requant_ok S N) (.cons (F_lodgelaw7_first_ok S N) (.cons (F_lodgeworld_Number_ok S N) (.cons (F_elem_One_ok S N) (.cons (F_lodgeref_SameTensor_ok S N) (.nil)))))
noncomputable abbrev b_lodgelaw7_ElemScales_1 : Code := (loopsOf b_lodgelaw7_ElemScales).getD 1 .skip
theorem g_lodgelaw7_ElemScales_1_ok (S : Nat → Addr) (N : Nat) : ∀ n x y, (fun (x : Val (slotsTy h_lodgelaw7_ElemScales_1)) => g_lodgelaw7_ElemScales_1 N n x.1 x.2.1 x.2.2.1 x.2.2.2.1 x.2.2.2.2.1 x.2.2.2.2.2.1 x.2.2.2.2.2.2.1) x = some y → LoopCon Go.Proofs.Tryd.prog E S b_lodgelaw7_ElemScales_1 (encSlots h_lodgelaw7_ElemScales_1 x) (encEx e_lodgelaw7_ElemScales_1 y).1 (encEx e_lodgelaw7_ElemScales_1 y).2 :=
  loop_spec E_ok mixed (cs_lodgelaw7_ElemScales_ok S N) (all := loopsOf b_lodgelaw7_ElemScales) (ls := []) (.nil) (i := 1) (by kernel_rfl) (inner_of (by kernel_rfl)) (head := h_lodgelaw7_ElemScales_1) (ex := e_lodgelaw7_ElemScales_1) (fun n (x : Val (slotsTy h_lodgelaw7_ElemScales_1)) => g_lodgelaw7_ElemScales_1 N n x.1 x.2.1 x.2.2.1 x.2.2.2.1 x.2.2.2.2.1 x.2.2.2.2.2.1 x.2.2.2.2.2.2.1) (fun _ => rfl) (fun n x => by kernel_rfl)
noncomputable abbrev b_lodgelaw7_ElemScales_0 : Code := (loopsOf b_lodgelaw7_ElemScales).getD 0 .skip
theorem g_lodgelaw7_ElemScales_0_ok (S : Nat → Addr) (N : Nat) : ∀ n x y, (fun (x : Val (slotsTy h_lodgelaw7_ElemScales_0)) => g_lodgelaw7_ElemScales_0 N n x.1 x.2.1 x.2.2.1 x.2.2.2.1 x.2.2.2.2.1 x.2.2.2.2.2.1) x = some y → LoopCon Go.Proofs.Tryd.prog E S b_lodgelaw7_ElemScales_0 (encSlots h_lodgelaw7_ElemScales_0 x) (encEx e_lodgelaw7_ElemScales_0 y).1 (encEx e_lodgelaw7_ElemScales_0 y).2 :=
  loop_spec E_ok mixed (cs_lodgelaw7_ElemScales_ok S N) (all := loopsOf b_lodgelaw7_ElemScales) (ls := []) (.nil) (i := 0) (by kernel_rfl) (inner_of (by kernel_rfl)) (head := h_lodgelaw7_ElemScales_0) (ex := e_lodgelaw7_ElemScales_0) (fun n (x : Val (slotsTy h_lodgelaw7_ElemScales_0)) => g_lodgelaw7_ElemScales_0 N n x.1 x.2.1 x.2.2.1 x.2.2.2.1 x.2.2.2.2.1 x.2.2.2.2.2.1) (fun _ => rfl) (fun n x => by kernel_rfl)
theorem F_lodgelaw7_ElemScales_ok (S : Nat → Addr) (N : Nat) : ∀ x y, (c_lodgelaw7_ElemScales N).g x = some y → FCon Go.Proofs.Tryd.prog E S 7 ps_lodgelaw7_ElemScales rs_lodgelaw7_ElemScales x y := by
  intro x y h
  exact fun_spec E_ok mixed (cs_lodgelaw7_ElemScales_ok S N) (f := 7) (fi := ⟨b_lodgelaw7_ElemScales, 137, Go.Proofs.Tryd.f7.results.toList⟩) (by kernel_rfl) (ls := [l_lodgelaw7_ElemScales_1 N, l_lodgelaw7_ElemScales_0 N]) (.cons (by kernel_rfl) (g_lodgelaw7_ElemScales_1_ok S N N) (.cons (by kernel_rfl) (g_lodgelaw7_ElemScales_0_ok S N N) (.nil))) (by kernel_rfl) (ps := ps_lodgelaw7_ElemScales) (rs := rs_lodgelaw7_ElemScales) (Eq.trans (b := F_lodgelaw7_ElemScales N x.1 x.2.1 x.2.2.1 x.2.2.2.1) (by kernel_rfl) h)

/-! lodge/lodgeworld.Desc -/

abbrev ps_lodgeworld_Desc : List Ty := [(.st (.pair (.sl (.int .i64)) .bool))]
abbrev rs_lodgeworld_Desc : List Slot := [.data .bool]
abbrev cs_lodgeworld_Desc (N : Nat) : List CallSpec := []
noncomputable abbrev b_lodgeworld_Desc : Code := (Go.Proofs.Tryd.f10.body).getD .skip

def F_lodgeworld_Desc (N : Nat) (d_0 : (List Int × Bool)) : Option (Bool × Unit) :=
  some ((decide ((Nat.cast (List.length (d_0).1) : Int) ≤ (8 : Int))), ())

abbrev c_lodgeworld_Desc (N : Nat) : CallSpec := ⟨10, ps_lodgeworld_Desc, rs_lodgeworld_Desc, fun x => F_lodgeworld_Desc N x.1⟩

theorem cs_lodgeworld_Desc_ok (S : Nat → Addr) (N : Nat) : CallsOK Go.Proofs.Tryd.prog E S (cs_lodgeworld_Desc N) :=
  .nil
theorem F_lodgeworld_Desc_ok (S : Nat → Addr) (N : Nat) : ∀ x y, (c_lodgeworld_Desc N).g x = some y → FCon Go.Proofs.Tryd.prog E S 10 ps_lodgeworld_Desc rs_lodgeworld_Desc x y := by
  intro x y h
  exact fun_spec E_ok mixed (cs_lodgeworld_Desc_ok S N) (f := 10) (fi := ⟨b_lodgeworld_Desc, 7, Go.Proofs.Tryd.f10.results.toList⟩) (by kernel_rfl) (ls := []) (.nil) (by kernel_rfl) (ps := ps_lodgeworld_Desc) (rs := rs_lodgeworld_Desc) (Eq.trans (b := F_lodgeworld_Desc N x.1) (by kernel_rfl) h)

/-! lodge/lodgeworld.Tensor -/

abbrev ps_lodgeworld_Tensor : List Ty := [(.st (.pair (.st (.pair (.sl (.int .i64)) .bool)) (.sl (.int .i64)))), (.int .i64)]
abbrev rs_lodgeworld_Tensor : List Slot := [.data .bool]
abbrev cs_lodgeworld_Tensor (N : Nat) : List CallSpec := [c_lodgeworld_Desc N]
noncomputable abbrev b_lodgeworld_Tensor : Code := (Go.Proofs.Tryd.f19.body).getD .skip

def F_lodgeworld_Tensor (N : Nat) (t_0 : ((List Int × Bool) × List Int)) (most_1 : Int) : Option (Bool × Unit) :=
  Option.bind (F_lodgeworld_Desc N (t_0).1) fun y0 =>
  cond (y0).1
    (
    some ((decide ((Nat.cast (List.length (t_0).2) : Int) ≤ most_1)), ()))
    (
    some (false, ()))

abbrev c_lodgeworld_Tensor (N : Nat) : CallSpec := ⟨19, ps_lodgeworld_Tensor, rs_lodgeworld_Tensor, fun x => F_lodgeworld_Tensor N x.1 x.2.1⟩

theorem cs_lodgeworld_Tensor_ok (S : Nat → Addr) (N : Nat) : CallsOK Go.Proofs.Tryd.prog E S (cs_lodgeworld_Tensor N) :=
  .cons (F_lodgeworld_Desc_ok S N) (.nil)
theorem F_lodgeworld_Tensor_ok (S : Nat → Addr) (N : Nat) : ∀ x y, (c_lodgeworld_Tensor N).g x = some y → FCon Go.Proofs.Tryd.prog E S 19 ps_lodgeworld_Tensor rs_lodgeworld_Tensor x y := by
  intro x y h
  exact fun_spec E_ok mixed (cs_lodgeworld_Tensor_ok S N) (f := 19) (fi := ⟨b_lodgeworld_Tensor, 15, Go.Proofs.Tryd.f19.results.toList⟩) (by kernel_rfl) (ls := []) (.nil) (by kernel_rfl) (ps := ps_lodgeworld_Tensor) (rs := rs_lodgeworld_Tensor) (Eq.trans (b := F_lodgeworld_Tensor N x.1 x.2.1) (by kernel_rfl) h)

/-! lodge/lodgeref3.ValidDesc -/

abbrev ps_lodgeref3_ValidDesc : List Ty := [(.st (.pair (.sl (.int .i64)) .bool))]
abbrev rs_lodgeref3_ValidDesc : List Slot := [.data (.int .i64)]
abbrev cs_lodgeref3_ValidDesc (N : Nat) : List CallSpec := []
noncomputable abbrev b_lodgeref3_ValidDesc : Code := (Go.Proofs.Tryd.f51.body).getD .skip

abbrev h_lodgeref3_ValidDesc_0 : List Slot := [.dead, .box [.d (.st (.pair (.sl (.int .i64)) .bool))], .dead, .data (.int .i64), .data (.int .i64), .dead, .dead, .dead, .dead, .dead, .dead, .dead, .dead, .dead, .dead, .dead, .dead, .dead, .dead, .dead, .dead, .dead, .dead, .dead, .dead, .dead, .dead, .dead, .dead, .dead, .dead, .dead, .dead, .dead, .dead, .dead, .dead, .dead, .dead]
abbrev e_lodgeref3_ValidDesc_0 : List (AX × List Slot) := [(AX.exit 0, [.dead, .dead, .dead, .data (.int .i64), .dead, .dead, .dead, .dead, .dead, .dead, .dead, .dead, .dead, .dead, .dead, .dead, .dead, .dead, .dead, .dead, .dead, .dead, .dead, .dead, .dead, .dead, .dead, .dead, .dead, .dead, .dead, .dead, .dead, .dead, .dead, .dead, .dead, .dead, .dead]), (AX.ret, [.dead, .dead, .data (.int .i64), .dead, .dead, .dead, .dead, .dead, .dead, .dead, .dead, .dead, .dead, .dead, .dead, .dead, .dead, .dead, .dead, .dead, .dead, .dead, .dead, .dead, .dead, .dead, .dead, .dead, .dead, .dead, .dead, .dead, .dead, .dead, .dead, .dead, .dead, .dead, .dead])]
def g_lodgeref3_ValidDesc_0 (N : Nat) : Nat → ((List Int × Bool) × Unit) → Int → Int → Option (Sum (Int × Unit) (Int × Unit))
  | 0, _, _, _ => none
  | n + 1, d_1, n_3, i_4 =>
    cond (decide (i_4 < (Nat.cast (List.length ((d_1).1).1) : Int)))
      (
      cond (decide ((0 : Int) ≤ i_4))
        (
        cond (decide ((Int.toNat i_4) < (List.length ((d_1).1).1)))
          (
          cond (decide ((List.getD ((d_1).1).1 (Int.toNat i_4) (0 : Int)) < (1 : Int)))
            (
            some (Sum.inr ((102 : Int), ())))
            (
            cond (decide ((0 : Int) ≤ i_4))
              (
              cond (decide ((Int.toNat i_4) < (List.length ((d_1).1).1)))
                (
                cond (decide ((256 : Int) < (List.getD ((d_1).1).1 (Int.toNat i_4) (0 : Int))))
                  (
                  some (Sum.inr ((102 : Int), ())))
                  (
                  cond (decide ((0 : Int) ≤ i_4))
                    (
                    cond (decide ((Int.toNat i_4) < (List.length ((d_1).1).1)))
                      (
                      (g_lodgeref3_ValidDesc_0 N n d_1 (wi64 (n_3 * (List.getD ((d_1).1).1 (Int.toNat i_4) (0 : Int)))) (wi64 (i_4 + (1 : Int)))))
                      (
                      none))
                    (
                    none)))
                (
                none))
              (
              none)))
          (
          none))
        (
        none))
      (
      some (Sum.inl (n_3, ())))

def F_lodgeref3_ValidDesc (N : Nat) (d_0 : (List Int × Bool)) : Option (Int × Unit) :=
  cond (decide ((4 : Int) < (Nat.cast (List.length (d_0).1) : Int)))
    (
    some ((104 : Int), ()))
    (
    Option.bind (g_lodgeref3_ValidDesc_0 N N (d_0, ()) (1 : Int) (0 : Int)) fun y0 =>
    Sum.elim (fun y1 =>
      cond (decide ((16384 : Int) < (y1).1))
        (
        some ((104 : Int), ()))
        (
        some ((0 : Int), ())))
      (fun y2 =>
      some y2) y0)

abbrev c_lodgeref3_ValidDesc (N : Nat) : CallSpec := ⟨51, ps_lodgeref3_ValidDesc, rs_lodgeref3_ValidDesc, fun x => F_lodgeref3_ValidDesc N x.1⟩
abbrev l_lodgeref3_ValidDesc_0 (N : Nat) : LoopSpec := ⟨0, h_lodgeref3_ValidDesc_0, e_lodgeref3_ValidDesc_0, fun x => g_lodgeref3_ValidDesc_0 N N x.1 x.2.1 x.2.2.1⟩

theorem cs_lodgeref3_ValidDesc_ok (S : Nat → Addr) (N : Nat) : CallsOK Go.Proofs.Tryd.prog E S (cs_lodgeref3_ValidDesc N) :=
  .nil
noncomputable abbrev b_lodgeref3_ValidDesc_0 : Code := (loopsOf b_lodgeref3_ValidDesc).getD 0 .skip
theorem g_lodgeref3_ValidDesc_0_ok (S : Nat → Addr) (N : Nat) : ∀ n x y, (fun (x : Val (slotsTy h_lodgeref3_ValidDesc_0)) => g_lodgeref3_ValidDesc_0 N n x.1 x.2.1 x.2.2.1) x = some y → LoopCon Go.Proofs.Tryd.prog E S b_lodgeref3_ValidDesc_0 (encSlots h_lodgeref3_ValidDesc_0 x) (encEx e_lodgeref3_ValidDesc_0 y).1 (encEx e_lodgeref3_ValidDesc_0 y).2 :=
  loop_spec E_ok mixed (cs_lodgeref3_ValidDesc_ok S N) (all := loopsOf b_lodgeref3_ValidDesc) (ls := []) (.nil) (i := 0) (by kernel_rfl) (inner_of (by kernel_rfl)) (head := h_lodgeref3_ValidDesc_0) (ex := e_lodgeref3_ValidDesc_0) (fun n (x : Val (slotsTy h_lodgeref3_ValidDesc_0)) => g_lodgeref3_ValidDesc_0 N n x.1 x.2.1 x.2.2.1) (fun _ => rfl) (fun n x => by kernel_rfl)
theorem F_lodgeref3_ValidDesc_ok (S : Nat → Addr) (N : Nat) : ∀ x y, (c_lodgeref3_ValidDesc N).g x = some y → FCon Go.Proofs.Tryd.prog E S 51 ps_lodgeref3_ValidDesc rs_lodgeref3_ValidDesc x y := by
  intro x y h
  exact fun_spec E_ok mixed (cs_lodgeref3_ValidDesc_ok S N) (f := 51) (fi := ⟨b_lodgeref3_ValidDesc, 39, Go.Proofs.Tryd.f51.results.toList⟩) (by kernel_rfl) (ls := [l_lodgeref3_ValidDesc_0 N]) (.cons (by kernel_rfl) (g_lodgeref3_ValidDesc_0_ok S N N) (.nil)) (by kernel_rfl) (ps := ps_lodgeref3_ValidDesc) (rs := rs_lodgeref3_ValidDesc) (Eq.trans (b := F_lodgeref3_ValidDesc N x.1) (by kernel_rfl) h)

/-! lodge/lodgeref.Bare -/

abbrev ps_lodgeref_Bare : List Ty := [(.int .i64)]
abbrev rs_lodgeref_Bare : List Slot := [.data (.st (.pair (.int .i64) (.pair .bool (.int .i64))))]
abbrev cs_lodgeref_Bare (N : Nat) : List CallSpec := []
noncomputable abbrev b_lodgeref_Bare : Code := (Go.Proofs.Tryd.f43.body).getD .skip

def F_lodgeref_Bare (N : Nat) (code_0 : Int) : Option ((Int × (Bool × Int)) × Unit) :=
  some ((code_0, (false, (0 : Int))), ())

abbrev c_lodgeref_Bare (N : Nat) : CallSpec := ⟨43, ps_lodgeref_Bare, rs_lodgeref_Bare, fun x => F_lodgeref_Bare N x.1⟩

theorem cs_lodgeref_Bare_ok (S : Nat → Addr) (N : Nat) : CallsOK Go.Proofs.Tryd.prog E S (cs_lodgeref_Bare N) :=
  .nil
theorem F_lodgeref_Bare_ok (S : Nat → Addr) (N : Nat) : ∀ x y, (c_lodgeref_Bare N).g x = some y → FCon Go.Proofs.Tryd.prog E S 43 ps_lodgeref_Bare rs_lodgeref_Bare x y := by
  intro x y h
  exact fun_spec E_ok mixed (cs_lodgeref_Bare_ok S N) (f := 43) (fi := ⟨b_lodgeref_Bare, 5, Go.Proofs.Tryd.f43.results.toList⟩) (by kernel_rfl) (ls := []) (.nil) (by kernel_rfl) (ps := ps_lodgeref_Bare) (rs := rs_lodgeref_Bare) (Eq.trans (b := F_lodgeref_Bare N x.1) (by kernel_rfl) h)

/-! lodge/lodgeref3.Elems -/

abbrev ps_lodgeref3_Elems : List Ty := [(.sl (.int .i64))]
abbrev rs_lodgeref3_Elems : List Slot := [.data (.int .i64)]
abbrev cs_lodgeref3_Elems (N : Nat) : List CallSpec := [c_lodgeref3_ValidDesc N]
noncomputable abbrev b_lodgeref3_Elems : Code := (Go.Proofs.Tryd.f52.body).getD .skip

abbrev h_lodgeref3_Elems_0 : List Slot := [.data (.sl (.int .i64)), .dead, .dead, .data (.int .i64), .data (.int .i64), .dead, .dead, .dead, .dead, .dead, .dead, .dead, .dead, .dead, .dead, .dead, .dead, .dead, .dead, .dead, .dead, .dead]
abbrev e_lodgeref3_Elems_0 : List (AX × List Slot) := [(AX.exit 0, [.dead, .dead, .dead, .data (.int .i64), .dead, .dead, .dead, .dead, .dead, .dead, .dead, .dead, .dead, .dead, .dead, .dead, .dead, .dead, .dead, .dead, .dead, .dead])]
def g_lodgeref3_Elems_0 (N : Nat) : Nat → List Int → Int → Int → Option (Int × Unit)
  | 0, _, _, _ => none
  | n + 1, shape_0, n_3, i_4 =>
    cond (decide (i_4 < (Nat.cast (List.length shape_0) : Int)))
      (
      cond (decide ((0 : Int) ≤ i_4))
        (
        cond (decide ((Int.toNat i_4) < (List.length shape_0)))
          (
          (g_lodgeref3_Elems_0 N n shape_0 (wi64 (n_3 * (List.getD shape_0 (Int.toNat i_4) (0 : Int)))) (wi64 (i_4 + (1 : Int)))))
          (
          none))
        (
        none))
      (
      some (n_3, ()))

def F_lodgeref3_Elems (N : Nat) (shape_0 : List Int) : Option (Int × Unit) :=
  Option.bind (F_lodgeref3_ValidDesc N (shape_0, false)) fun y0 =>
  cond (decide (@Ne Int (y0).1 (0 : Int)))
    (
    some ((0 : Int), ()))
    (
    Option.bind (g_lodgeref3_Elems_0 N N shape_0 (1 : Int) (0 : Int)) fun y1 =>
    some y1)

abbrev c_lodgeref3_Elems (N : Nat) : CallSpec := ⟨52, ps_lodgeref3_Elems, rs_lodgeref3_Elems, fun x => F_lodgeref3_Elems N x.1⟩
abbrev l_lodgeref3_Elems_0 (N : Nat) : LoopSpec := ⟨0, h_lodgeref3_Elems_0, e_lodgeref3_Elems_0, fun x => g_lodgeref3_Elems_0 N N x.1 x.2.1 x.2.2.1⟩

theorem cs_lodgeref3_Elems_ok (S : Nat → Addr) (N : Nat) : CallsOK Go.Proofs.Tryd.prog E S (cs_lodgeref3_Elems N) :=
  .cons (F_lodgeref3_ValidDesc_ok S N) (.nil)
noncomputable abbrev b_lodgeref3_Elems_0 : Code := (loopsOf b_lodgeref3_Elems).getD 0 .skip
theorem g_lodgeref3_Elems_0_ok (S : Nat → Addr) (N : Nat) : ∀ n x y, (fun (x : Val (slotsTy h_lodgeref3_Elems_0)) => g_lodgeref3_Elems_0 N n x.1 x.2.1 x.2.2.1) x = some y → LoopCon Go.Proofs.Tryd.prog E S b_lodgeref3_Elems_0 (encSlots h_lodgeref3_Elems_0 x) (encEx e_lodgeref3_Elems_0 y).1 (encEx e_lodgeref3_Elems_0 y).2 :=
  loop_spec E_ok mixed (cs_lodgeref3_Elems_ok S N) (all := loopsOf b_lodgeref3_Elems) (ls := []) (.nil) (i := 0) (by kernel_rfl) (inner_of (by kernel_rfl)) (head := h_lodgeref3_Elems_0) (ex := e_lodgeref3_Elems_0) (fun n (x : Val (slotsTy h_lodgeref3_Elems_0)) => g_lodgeref3_Elems_0 N n x.1 x.2.1 x.2.2.1) (fun _ => rfl) (fun n x => by kernel_rfl)
theorem F_lodgeref3_Elems_ok (S : Nat → Addr) (N : Nat) : ∀ x y, (c_lodgeref3_Elems N).g x = some y → FCon Go.Proofs.Tryd.prog E S 52 ps_lodgeref3_Elems rs_lodgeref3_Elems x y := by
  intro x y h
  exact fun_spec E_ok mixed (cs_lodgeref3_Elems_ok S N) (f := 52) (fi := ⟨b_lodgeref3_Elems, 22, Go.Proofs.Tryd.f52.results.toList⟩) (by kernel_rfl) (ls := [l_lodgeref3_Elems_0 N]) (.cons (by kernel_rfl) (g_lodgeref3_Elems_0_ok S N N) (.nil)) (by kernel_rfl) (ps := ps_lodgeref3_Elems) (rs := rs_lodgeref3_Elems) (Eq.trans (b := F_lodgeref3_Elems N x.1) (by kernel_rfl) h)

/-! lodge/lodgeref3.in -/

abbrev ps_lodgeref3_in : List Ty := [(.int .i64), .bool]
abbrev rs_lodgeref3_in : List Slot := [.data .bool]
abbrev cs_lodgeref3_in (N : Nat) : List CallSpec := []
noncomputable abbrev b_lodgeref3_in : Code := (Go.Proofs.Tryd.f41.body).getD .skip

def F_lodgeref3_in (N : Nat) (n_0 : Int) (wide_1 : Bool) : Option (Bool × Unit) :=
  cond wide_1
    (
    cond (decide ((-(2147483648 : Int)) ≤ n_0))
      (
      some ((decide (n_0 ≤ (2147483647 : Int))), ()))
      (
      some (false, ())))
    (
    cond (decide ((-(128 : Int)) ≤ n_0))
      (
      some ((decide (n_0 ≤ (127 : Int))), ()))
      (
      some (false, ())))

abbrev c_lodgeref3_in (N : Nat) : CallSpec := ⟨41, ps_lodgeref3_in, rs_lodgeref3_in, fun x => F_lodgeref3_in N x.1 x.2.1⟩

theorem cs_lodgeref3_in_ok (S : Nat → Addr) (N : Nat) : CallsOK Go.Proofs.Tryd.prog E S (cs_lodgeref3_in N) :=
  .nil
theorem F_lodgeref3_in_ok (S : Nat → Addr) (N : Nat) : ∀ x y, (c_lodgeref3_in N).g x = some y → FCon Go.Proofs.Tryd.prog E S 41 ps_lodgeref3_in rs_lodgeref3_in x y := by
  intro x y h
  exact fun_spec E_ok mixed (cs_lodgeref3_in_ok S N) (f := 41) (fi := ⟨b_lodgeref3_in, 18, Go.Proofs.Tryd.f41.results.toList⟩) (by kernel_rfl) (ls := []) (.nil) (by kernel_rfl) (ps := ps_lodgeref3_in) (rs := rs_lodgeref3_in) (Eq.trans (b := F_lodgeref3_in N x.1 x.2.1) (by kernel_rfl) h)

/-! lodge/lodgeref.None -/

abbrev ps_lodgeref_None : List Ty := []
abbrev rs_lodgeref_None : List Slot := [.data (.st (.pair (.int .i64) (.pair .bool (.int .i64))))]
abbrev cs_lodgeref_None (N : Nat) : List CallSpec := []
noncomputable abbrev b_lodgeref_None : Code := (Go.Proofs.Tryd.f50.body).getD .skip

def F_lodgeref_None (N : Nat)  : Option ((Int × (Bool × Int)) × Unit) :=
  some (((0 : Int), (false, (0 : Int))), ())

abbrev c_lodgeref_None (N : Nat) : CallSpec := ⟨50, ps_lodgeref_None, rs_lodgeref_None, fun x => F_lodgeref_None N ⟩

theorem cs_lodgeref_None_ok (S : Nat → Addr) (N : Nat) : CallsOK Go.Proofs.Tryd.prog E S (cs_lodgeref_None N) :=
  .nil
theorem F_lodgeref_None_ok (S : Nat → Addr) (N : Nat) : ∀ x y, (c_lodgeref_None N).g x = some y → FCon Go.Proofs.Tryd.prog E S 50 ps_lodgeref_None rs_lodgeref_None x y := by
  intro x y h
  exact fun_spec E_ok mixed (cs_lodgeref_None_ok S N) (f := 50) (fi := ⟨b_lodgeref_None, 2, Go.Proofs.Tryd.f50.results.toList⟩) (by kernel_rfl) (ls := []) (.nil) (by kernel_rfl) (ps := ps_lodgeref_None) (rs := rs_lodgeref_None) (Eq.trans (b := F_lodgeref_None N ) (by kernel_rfl) h)

/-! lodge/lodgeref.Placed -/

abbrev ps_lodgeref_Placed : List Ty := [(.int .i64), (.int .i64)]
abbrev rs_lodgeref_Placed : List Slot := [.data (.st (.pair (.int .i64) (.pair .bool (.int .i64))))]
abbrev cs_lodgeref_Placed (N : Nat) : List CallSpec := [c_lodgeref_None N]
noncomputable abbrev b_lodgeref_Placed : Code := (Go.Proofs.Tryd.f53.body).getD .skip

def F_lodgeref_Placed (N : Nat) (code_0 : Int) (pos_1 : Int) : Option ((Int × (Bool × Int)) × Unit) :=
  cond (decide (code_0 = (0 : Int)))
    (
    Option.bind (F_lodgeref_None N) fun y0 =>
    some y0)
    (
    some ((code_0, (true, pos_1)), ()))

abbrev c_lodgeref_Placed (N : Nat) : CallSpec := ⟨53, ps_lodgeref_Placed, rs_lodgeref_Placed, fun x => F_lodgeref_Placed N x.1 x.2.1⟩

theorem cs_lodgeref_Placed_ok (S : Nat → Addr) (N : Nat) : CallsOK Go.Proofs.Tryd.prog E S (cs_lodgeref_Placed N) :=
  .cons (F_lodgeref_None_ok S N) (.nil)
theorem F_lodgeref_Placed_ok (S : Nat → Addr) (N : Nat) : ∀ x y, (c_lodgeref_Placed N).g x = some y → FCon Go.Proofs.Tryd.prog E S 53 ps_lodgeref_Placed rs_lodgeref_Placed x y := by
  intro x y h
  exact fun_spec E_ok mixed (cs_lodgeref_Placed_ok S N) (f := 53) (fi := ⟨b_lodgeref_Placed, 11, Go.Proofs.Tryd.f53.results.toList⟩) (by kernel_rfl) (ls := []) (.nil) (by kernel_rfl) (ps := ps_lodgeref_Placed) (rs := rs_lodgeref_Placed) (Eq.trans (b := F_lodgeref_Placed N x.1 x.2.1) (by kernel_rfl) h)

/-! lodge/lodgeref3.Valid -/

abbrev ps_lodgeref3_Valid : List Ty := [(.st (.pair (.st (.pair (.sl (.int .i64)) .bool)) (.sl (.int .i64))))]
abbrev rs_lodgeref3_Valid : List Slot := [.data (.st (.pair (.int .i64) (.pair .bool (.int .i64))))]
abbrev cs_lodgeref3_Valid (N : Nat) : List CallSpec := [c_lodgeref3_ValidDesc N, c_lodgeref_Bare N, c_lodgeref3_Elems N, c_lodgeref3_in N, c_lodgeref_None N, c_lodgeref_Placed N]
noncomputable abbrev b_lodgeref3_Valid : Code := (Go.Proofs.Tryd.f23.body).getD .skip

abbrev h_lodgeref3_Valid_0 : List Slot := [.dead, .box [.d (.st (.pair (.st (.pair (.sl (.int .i64)) .bool)) (.sl (.int .i64))))], .box [.d (.st (.pair (.int .i64) (.pair .bool (.int .i64))))], .dead, .data (.int .i64), .dead, .dead, .dead, .dead, .dead, .dead, .dead, .dead, .dead, .dead, .dead, .dead, .dead, .dead, .dead, .dead, .dead, .dead, .dead, .dead, .dead, .dead, .dead, .dead, .dead, .dead, .dead, .dead, .dead, .dead, .dead, .dead, .dead, .dead, .dead, .dead]
abbrev e_lodgeref3_Valid_0 : List (AX × List Slot) := [(AX.exit 0, [.dead, .dead, .box [.d (.st (.pair (.int .i64) (.pair .bool (.int .i64))))], .dead, .dead, .dead, .dead, .dead, .dead, .dead, .dead, .dead, .dead, .dead, .dead, .dead, .dead, .dead, .dead, .dead, .dead, .dead, .dead, .dead, .dead, .dead, .dead, .dead, .dead, .dead, .dead, .dead, .dead, .dead, .dead, .dead, .dead, .dead, .dead, .dead, .dead]), (AX.ret, [.dead, .dead, .box [.d (.st (.pair (.int .i64) (.pair .bool (.int .i64))))], .dead, .dead, .dead, .dead, .dead, .dead, .dead, .dead, .dead, .dead, .dead, .dead, .dead, .dead, .dead, .dead, .dead, .dead, .dead, .dead, .dead, .dead, .dead, .dead, .dead, .dead, .dead, .dead, .dead, .dead, .dead, .dead, .dead, .dead, .dead, .dead, .dead, .dead])]
def g_lodgeref3_Valid_0 (N : Nat) : Nat → (((List Int × Bool) × List Int) × Unit) → ((Int × (Bool × Int)) × Unit) → Int → Option (Sum (((Int × (Bool × Int)) × Unit) × Unit) (((Int × (Bool × Int)) × Unit) × Unit))
  | 0, _, _, _ => none
  | n + 1, t_1, t_2, i_4 =>
    cond (decide (i_4 < (Nat.cast (List.length ((t_1).1).2) : Int)))
      (
      cond (decide ((0 : Int) ≤ i_4))
        (
        cond (decide ((Int.toNat i_4) < (List.length ((t_1).1).2)))
          (
          Option.bind (F_lodgeref3_in N (List.getD ((t_1).1).2 (Int.toNat i_4) (0 : Int)) (((t_1).1).1).2) fun y4 =>
          cond (Bool.not (y4).1)
            (
            Option.bind (F_lodgeref_Placed N (102 : Int) i_4) fun y5 =>
            some (Sum.inr (y5, ())))
            (
            (g_lodgeref3_Valid_0 N n t_1 t_2 (wi64 (i_4 + (1 : Int))))))
          (
          none))
        (
        none))
      (
      some (Sum.inl (t_2, ())))

def F_lodgeref3_Valid (N : Nat) (t_0 : ((List Int × Bool) × List Int)) : Option ((Int × (Bool × Int)) × Unit) :=
  Option.bind (F_lodgeref3_ValidDesc N (t_0).1) fun y0 =>
  cond (decide (@Ne Int (y0).1 (0 : Int)))
    (
    Option.bind (F_lodgeref_Bare N (y0).1) fun y1 =>
    some y1)
    (
    Option.bind (F_lodgeref3_Elems N ((t_0).1).1) fun y2 =>
    cond (decide (@Ne Int (Nat.cast (List.length (t_0).2) : Int) (y2).1))
      (
      Option.bind (F_lodgeref_Bare N (101 : Int)) fun y3 =>
      some y3)
      (
      Option.bind (g_lodgeref3_Valid_0 N N (t_0, ()) (((0 : Int), (false, (0 : Int))), ()) (0 : Int)) fun y4 =>
      Sum.elim (fun y5 =>
        Option.bind (F_lodgeref_None N) fun y6 =>
        some y6)
        (fun y7 =>
        some (y7).1) y4))

abbrev c_lodgeref3_Valid (N : Nat) : CallSpec := ⟨23, ps_lodgeref3_Valid, rs_lodgeref3_Valid, fun x => F_lodgeref3_Valid N x.1⟩
abbrev l_lodgeref3_Valid_0 (N : Nat) : LoopSpec := ⟨0, h_lodgeref3_Valid_0, e_lodgeref3_Valid_0, fun x => g_lodgeref3_Valid_0 N N x.1 x.2.1 x.2.2.1⟩

theorem cs_lodgeref3_Valid_ok (S : Nat → Addr) (N : Nat) : CallsOK Go.Proofs.Tryd.prog E S (cs_lodgeref3_Valid N) :=
  .cons (F_lodgeref3_ValidDesc_ok S N) (.cons (F_lodgeref_Bare_ok S N) (.cons (F_lodgeref3_Elems_ok S N) (.cons (F_lodgeref3_in_ok S N) (.cons (F_lodgeref_None_ok S N) (.cons (F_lodgeref_Placed_ok S N) (.nil))))))
noncomputable abbrev b_lodgeref3_Valid_0 : Code := (loopsOf b_lodgeref3_Valid).getD 0 .skip
theorem g_lodgeref3_Valid_0_ok (S : Nat → Addr) (N : Nat) : ∀ n x y, (fun (x : Val (slotsTy h_lodgeref3_Valid_0)) => g_lodgeref3_Valid_0 N n x.1 x.2.1 x.2.2.1) x = some y → LoopCon Go.Proofs.Tryd.prog E S b_lodgeref3_Valid_0 (encSlots h_lodgeref3_Valid_0 x) (encEx e_lodgeref3_Valid_0 y).1 (encEx e_lodgeref3_Valid_0 y).2 :=
  loop_spec E_ok mixed (cs_lodgeref3_Valid_ok S N) (all := loopsOf b_lodgeref3_Valid) (ls := []) (.nil) (i := 0) (by kernel_rfl) (inner_of (by kernel_rfl)) (head := h_lodgeref3_Valid_0) (ex := e_lodgeref3_Valid_0) (fun n (x : Val (slotsTy h_lodgeref3_Valid_0)) => g_lodgeref3_Valid_0 N n x.1 x.2.1 x.2.2.1) (fun _ => rfl) (fun n x => by kernel_rfl)
theorem F_lodgeref3_Valid_ok (S : Nat → Addr) (N : Nat) : ∀ x y, (c_lodgeref3_Valid N).g x = some y → FCon Go.Proofs.Tryd.prog E S 23 ps_lodgeref3_Valid rs_lodgeref3_Valid x y := by
  intro x y h
  exact fun_spec E_ok mixed (cs_lodgeref3_Valid_ok S N) (f := 23) (fi := ⟨b_lodgeref3_Valid, 41, Go.Proofs.Tryd.f23.results.toList⟩) (by kernel_rfl) (ls := [l_lodgeref3_Valid_0 N]) (.cons (by kernel_rfl) (g_lodgeref3_Valid_0_ok S N N) (.nil)) (by kernel_rfl) (ps := ps_lodgeref3_Valid) (rs := rs_lodgeref3_Valid) (Eq.trans (b := F_lodgeref3_Valid N x.1) (by kernel_rfl) h)


end Go.Proofs.YtmbcbocnncfpbaaDoor.Lg
