/-
  The functions of the seat's program, as plain functions.
-/
import Derived.Test.YtmbcbocnncfpbaaDoorLgElemAFb
namespace Go.Proofs.YtmbcbocnncfpbaaDoor.Lg
open Go Go.Eng Go.Proofs
set_option maxRecDepth 100000

/-! lodge/lodgeref3.Good -/

abbrev ps_lodgeref3_Good : List Ty := [(.st (.pair (.st (.pair (.sl (.int .i64)) .bool)) (.sl (.int .i64))))]
abbrev rs_lodgeref3_Good : List Slot := [.data .bool]
abbrev cs_lodgeref3_Good (N : Nat) : List CallSpec := [c_lodgeref3_Valid N]
noncomputable abbrev b_lodgeref3_Good : Code := (Go.Proofs.Tryd.f29.body).getD .skip

def F_lodgeref3_Good (N : Nat) (t_0 : ((List Int × Bool) × List Int)) : Option (Bool × Unit) :=
  Option.bind (F_lodgeref3_Valid N t_0) fun y0 =>
  some ((decide (((y0).1).1 = (0 : Int))), ())

abbrev c_lodgeref3_Good (N : Nat) : CallSpec := ⟨29, ps_lodgeref3_Good, rs_lodgeref3_Good, fun x => F_lodgeref3_Good N x.1⟩

theorem cs_lodgeref3_Good_ok (S : Nat → Addr) (N : Nat) : CallsOK Go.Proofs.Tryd.prog E S (cs_lodgeref3_Good N) :=
  .cons (F_lodgeref3_Valid_ok S N) (.nil)
theorem F_lodgeref3_Good_ok (S : Nat → Addr) (N : Nat) : ∀ x y, (c_lodgeref3_Good N).g x = some y → FCon Go.Proofs.Tryd.prog E S 29 ps_lodgeref3_Good rs_lodgeref3_Good x y := by
  intro x y h
  exact fun_spec E_ok mixed (cs_lodgeref3_Good_ok S N) (f := 29) (fi := ⟨b_lodgeref3_Good, 7, Go.Proofs.Tryd.f29.results.toList⟩) (by kernel_rfl) (ls := []) (.nil) (by kernel_rfl) (ps := ps_lodgeref3_Good) (rs := rs_lodgeref3_Good) (Eq.trans (b := F_lodgeref3_Good N x.1) (by kernel_rfl) h)

/-! lodge/tens.Same -/

abbrev ps_tens_Same : List Ty := [(.st (.pair (.st (.pair (.sl (.int .i64)) .bool)) (.sl (.int .i64)))), (.st (.pair (.st (.pair (.sl (.int .i64)) .bool)) (.sl (.int .i64))))]
abbrev rs_tens_Same : List Slot := [.data .bool]
abbrev cs_tens_Same (N : Nat) : List CallSpec := [c_slices_Equal_int_int N, c_shape_Same N]
noncomputable abbrev b_tens_Same : Code := (Go.Proofs.Tryd.f30.body).getD .skip

def F_tens_Same (N : Nat) (a_0 : ((List Int × Bool) × List Int)) (b_1 : ((List Int × Bool) × List Int)) : Option (Bool × Unit) :=
  Option.bind (F_shape_Same N (a_0).1 (b_1).1) fun y0 =>
  cond (y0).1
    (
    Option.bind (F_slices_Equal_int_int N (a_0).2 (b_1).2) fun y1 =>
    some y1)
    (
    some (false, ()))

abbrev c_tens_Same (N : Nat) : CallSpec := ⟨30, ps_tens_Same, rs_tens_Same, fun x => F_tens_Same N x.1 x.2.1⟩

theorem cs_tens_Same_ok (S : Nat → Addr) (N : Nat) : CallsOK Go.Proofs.Tryd.prog E S (cs_tens_Same N) :=
  .cons (F_slices_Equal_int_int_ok S N) (.cons (F_shape_Same_ok S N) (.nil))
theorem F_tens_Same_ok (S : Nat → Addr) (N : Nat) : ∀ x y, (c_tens_Same N).g x = some y → FCon Go.Proofs.Tryd.prog E S 30 ps_tens_Same rs_tens_Same x y := by
  intro x y h
  exact fun_spec E_ok mixed (cs_tens_Same_ok S N) (f := 30) (fi := ⟨b_tens_Same, 17, Go.Proofs.Tryd.f30.results.toList⟩) (by kernel_rfl) (ls := []) (.nil) (by kernel_rfl) (ps := ps_tens_Same) (rs := rs_tens_Same) (Eq.trans (b := F_tens_Same N x.1 x.2.1) (by kernel_rfl) h)

/-! lodge/lodgelaw7.ElemLaws -/

abbrev ps_lodgelaw7_ElemLaws : List Ty := [(.st (.pair (.st (.pair (.sl (.int .i64)) .bool)) (.sl (.int .i64)))), (.st (.pair (.st (.pair (.sl (.int .i64)) .bool)) (.sl (.int .i64))))]
abbrev rs_lodgelaw7_ElemLaws : List Slot := [.data .bool]
abbrev cs_lodgelaw7_ElemLaws (N : Nat) : List CallSpec := [c_tens_Valid N, c_elem_Two N, c_lodgelaw7_first N, c_elem_One N, c_lodgeref_SameDesc N, c_lodgeworld_Tensor N, c_lodgeref3_Good N, c_tens_Same N]
noncomputable abbrev b_lodgelaw7_ElemLaws : Code := (Go.Proofs.Tryd.f8.body).getD .skip

abbrev h_lodgelaw7_ElemLaws_0 : List Slot := [.dead, .dead, .box [.d (.st (.pair (.st (.pair (.sl (.int .i64)) .bool)) (.sl (.int .i64))))], .box [.d (.st (.pair (.st (.pair (.sl (.int .i64)) .bool)) (.sl (.int .i64))))], .dead, .dead, .dead, .dead, .dead, .dead, .box [.sl (.int .i64), .d .bool, .sl (.int .i64)], .dead, .box [.sl (.int .i64), .d .bool, .sl (.int .i64)], .dead, .dead, .dead, .dead, .dead, .dead, .dead, .data (.int .i64), .dead, .dead, .dead, .dead, .dead, .dead, .dead, .dead, .dead, .dead, .dead, .dead, .dead, .dead, .dead, .dead, .dead, .dead, .dead, .dead, .dead, .dead, .dead, .dead, .dead, .dead, .dead, .dead, .dead, .dead, .dead, .dead, .dead, .dead, .dead, .dead, .dead, .dead, .dead, .dead, .dead, .dead, .dead, .dead, .dead, .dead, .dead, .dead, .dead, .dead, .dead, .dead, .dead, .dead, .dead, .dead, .dead, .dead, .dead, .dead, .dead, .dead, .dead, .dead, .dead, .dead, .dead, .dead, .dead, .dead, .dead, .dead, .dead, .dead, .dead, .dead, .dead, .dead, .dead, .dead, .dead, .dead, .dead, .dead, .dead, .dead, .dead, .dead, .dead, .dead, .dead, .dead, .dead, .dead, .dead, .dead, .dead, .dead, .dead, .dead, .dead, .dead, .dead, .dead, .dead, .dead, .dead, .dead, .dead, .dead, .dead, .dead, .dead, .dead, .dead, .dead, .dead, .dead, .dead, .dead, .dead, .dead, .dead, .dead, .dead, .dead, .dead, .dead, .dead, .dead, .dead, .dead, .dead, .dead, .dead, .dead, .dead, .dead, .dead, .dead, .dead, .dead, .dead, .dead, .dead, .dead, .dead, .dead, .dead, .dead, .dead, .dead, .dead, .dead, .dead, .dead, .dead, .dead, .dead, .dead, .dead, .dead, .dead, .dead, .dead, .dead, .dead, .dead, .dead, .dead, .dead, .dead, .dead, .dead, .dead, .dead, .dead, .dead, .dead, .dead, .dead, .dead, .dead, .dead, .dead, .dead, .dead, .dead, .dead, .dead, .dead, .dead, .dead, .dead, .dead]
abbrev e_lodgelaw7_ElemLaws_0 : List (AX × List Slot) := [(AX.exit 0, [.dead, .dead, .box [.d (.st (.pair (.st (.pair (.sl (.int .i64)) .bool)) (.sl (.int .i64))))], .dead, .dead, .dead, .dead, .dead, .dead, .dead, .dead, .dead, .dead, .dead, .dead, .dead, .dead, .dead, .dead, .dead, .dead, .dead, .dead, .dead, .dead, .dead, .dead, .dead, .dead, .dead, .dead, .dead, .dead, .dead, .dead, .dead, .dead, .dead, .dead, .dead, .dead, .dead, .dead, .dead, .dead, .dead, .dead, .dead, .dead, .dead, .dead, .dead, .dead, .dead, .dead, .dead, .dead, .dead, .dead, .dead, .dead, .dead, .dead, .dead, .dead, .dead, .dead, .dead, .dead, .dead, .dead, .dead, .dead, .dead, .dead, .dead, .dead, .dead, .dead, .dead, .dead, .dead, .dead, .dead, .dead, .dead, .dead, .dead, .dead, .dead, .dead, .dead, .dead, .dead, .dead, .dead, .dead, .dead, .dead, .dead, .dead, .dead, .dead, .dead, .dead, .dead, .dead, .dead, .dead, .dead, .dead, .dead, .dead, .dead, .dead, .dead, .dead, .dead, .dead, .dead, .dead, .dead, .dead, .dead, .dead, .dead, .dead, .dead, .dead, .dead, .dead, .dead, .dead, .dead, .dead, .dead, .dead, .dead, .dead, .dead, .dead, .dead, .dead, .dead, .dead, .dead, .dead, .dead, .dead, .dead, .dead, .dead, .dead, .dead, .dead, .dead, .dead, .dead, .dead, .dead, .dead, .dead, .dead, .dead, .dead, .dead, .dead, .dead, .dead, .dead, .dead, .dead, .dead, .dead, .dead, .dead, .dead, .dead, .dead, .dead, .dead, .dead, .dead, .dead, .dead, .dead, .dead, .dead, .dead, .dead, .dead, .dead, .dead, .dead, .dead, .dead, .dead, .dead, .dead, .dead, .dead, .dead, .dead, .dead, .dead, .dead, .dead, .dead, .dead, .dead, .dead, .dead, .dead, .dead, .dead, .dead]), (AX.ret, [.dead, .dead, .dead, .dead, .data .bool, .dead, .dead, .dead, .dead, .dead, .dead, .dead, .dead, .dead, .dead, .dead, .dead, .dead, .dead, .dead, .dead, .dead, .dead, .dead, .dead, .dead, .dead, .dead, .dead, .dead, .dead, .dead, .dead, .dead, .dead, .dead, .dead, .dead, .dead, .dead, .dead, .dead, .dead, .dead, .dead, .dead, .dead, .dead, .dead, .dead, .dead, .dead, .dead, .dead, .dead, .dead, .dead, .dead, .dead, .dead, .dead, .dead, .dead, .dead, .dead, .dead, .dead, .dead, .dead, .dead, .dead, .dead, .dead, .dead, .dead, .dead, .dead, .dead, .dead, .dead, .dead, .dead, .dead, .dead, .dead, .dead, .dead, .dead, .dead, .dead, .dead, .dead, .dead, .dead, .dead, .dead, .dead, .dead, .dead, .dead, .dead, .dead, .dead, .dead, .dead, .dead, .dead, .dead, .dead, .dead, .dead, .dead, .dead, .dead, .dead, .dead, .dead, .dead, .dead, .dead, .dead, .dead, .dead, .dead, .dead, .dead, .dead, .dead, .dead, .dead, .dead, .dead, .dead, .dead, .dead, .dead, .dead, .dead, .dead, .dead, .dead, .dead, .dead, .dead, .dead, .dead, .dead, .dead, .dead, .dead, .dead, .dead, .dead, .dead, .dead, .dead, .dead, .dead, .dead, .dead, .dead, .dead, .dead, .dead, .dead, .dead, .dead, .dead, .dead, .dead, .dead, .dead, .dead, .dead, .dead, .dead, .dead, .dead, .dead, .dead, .dead, .dead, .dead, .dead, .dead, .dead, .dead, .dead, .dead, .dead, .dead, .dead, .dead, .dead, .dead, .dead, .dead, .dead, .dead, .dead, .dead, .dead, .dead, .dead, .dead, .dead, .dead, .dead, .dead, .dead, .dead, .dead, .dead, .dead, .dead, .dead])]
def g_lodgelaw7_ElemLaws_0 (N : Nat) : Nat → (((List Int × Bool) × List Int) × Unit) → (((List Int × Bool) × List Int) × Unit) → (List Int × (Bool × (List Int × Unit))) → (List Int × (Bool × (List Int × Unit))) → Int → Option (Sum ((((List Int × Bool) × List Int) × Unit) × Unit) (Bool × Unit))
  | 0, _, _, _, _, _ => none
  | n + 1, a_2, b_3, m_10, r_12, i_20 =>
    cond (decide (i_20 < (Nat.cast (List.length ((a_2).1).2) : Int)))
      (
      cond (decide ((0 : Int) ≤ i_20))
        (
        cond (decide ((Int.toNat i_20) < (List.length (((m_10).2).2).1)))
          (
          cond (decide (((0 : Nat) + (Int.toNat i_20)) < (List.length (((m_10).2).2).1)))
            (
            cond (decide ((0 : Int) ≤ i_20))
              (
              cond (decide ((Int.toNat i_20) < (List.length ((a_2).1).2)))
                (
                cond (decide ((0 : Int) ≤ i_20))
                  (
                  cond (decide ((Int.toNat i_20) < (List.length ((b_3).1).2)))
                    (
                    cond (decide (@Ne Int (List.getD (((m_10).2).2).1 ((0 : Nat) + (Int.toNat i_20)) (0 : Int)) (Go.Eng.imax (List.getD ((a_2).1).2 (Int.toNat i_20) (0 : Int)) (List.getD ((b_3).1).2 (Int.toNat i_20) (0 : Int)))))
                      (
                      some (Sum.inr (false, ())))
                      (
                      cond (decide ((0 : Int) ≤ i_20))
                        (
                        cond (decide ((Int.toNat i_20) < (List.length (((r_12).2).2).1)))
                          (
                          cond (decide (((0 : Nat) + (Int.toNat i_20)) < (List.length (((r_12).2).2).1)))
                            (
                            cond (decide ((0 : Int) ≤ i_20))
                              (
                              cond (decide ((Int.toNat i_20) < (List.length ((a_2).1).2)))
                                (
                                cond (decide (@Ne Int (List.getD (((r_12).2).2).1 ((0 : Nat) + (Int.toNat i_20)) (0 : Int)) (Go.Eng.imax (List.getD ((a_2).1).2 (Int.toNat i_20) (0 : Int)) (0 : Int))))
                                  (
                                  some (Sum.inr (false, ())))
                                  (
                                  cond (decide ((List.length (m_10).1) = (List.length (m_10).1)))
                                    (
                                    cond (decide ((List.length (((m_10).2).2).1) = (List.length (((m_10).2).2).1)))
                                      (
                                      cond (decide ((List.length (r_12).1) = (List.length (r_12).1)))
                                        (
                                        cond (decide ((List.length (((r_12).2).2).1) = (List.length (((r_12).2).2).1)))
                                          (
                                          (g_lodgelaw7_ElemLaws_0 N n a_2 b_3 m_10 r_12 (wi64 (i_20 + (1 : Int)))))
                                          (
                                          none))
                                        (
                                        none))
                                      (
                                      none))
                                    (
                                    none)))
                                (
                                none))
                              (
                              none))
                            (
                            none))
                          (
                          none))
                        (
                        none)))
                    (
                    none))
                  (
                  none))
                (
                none))
              (
              none))
            (
            none))
          (
          none))
        (
        none))
      (
      some (Sum.inl (a_2, ())))

abbrev j_lodgelaw7_ElemLaws : Joins := [(17, [(AX.normal, [.dead, .dead, .box [.d (.st (.pair (.st (.pair (.sl (.int .i64)) .bool)) (.sl (.int .i64))))], .box [.d (.st (.pair (.st (.pair (.sl (.int .i64)) .bool)) (.sl (.int .i64))))], .dead, .dead, .dead, .dead, .dead, .dead, .box [.sl (.int .i64), .d .bool, .sl (.int .i64)], .dead, .box [.sl (.int .i64), .d .bool, .sl (.int .i64)], .dead, .dead, .dead, .dead, .dead, .dead, .dead, .dead, .dead, .dead, .dead, .dead, .dead, .dead, .dead, .dead, .dead, .dead, .dead, .dead, .dead, .dead, .dead, .dead, .dead, .dead, .dead, .dead, .dead, .dead, .dead, .dead, .dead, .dead, .dead, .dead, .dead, .dead, .dead, .dead, .dead, .dead, .dead, .dead, .dead, .dead, .dead, .dead, .dead, .dead, .dead, .dead, .dead, .dead, .dead, .dead, .dead, .dead, .dead, .dead, .dead, .dead, .dead, .dead, .dead, .dead, .dead, .dead, .dead, .dead, .dead, .dead, .dead, .dead, .dead, .dead, .dead, .dead, .dead, .dead, .dead, .dead, .dead, .dead, .dead, .dead, .dead, .dead, .dead, .dead, .dead, .dead, .dead, .dead, .dead, .dead, .dead, .dead, .dead, .dead, .dead, .dead, .dead, .dead, .dead, .dead, .dead, .dead, .dead, .dead, .dead, .dead, .dead, .dead, .dead, .dead, .dead, .dead, .dead, .dead, .dead, .dead, .dead, .dead, .dead, .dead, .dead, .dead, .dead, .dead, .dead, .dead, .dead, .dead, .dead, .dead, .dead, .dead, .dead, .dead, .dead, .dead, .dead, .dead, .dead, .dead, .dead, .dead, .dead, .dead, .dead, .dead, .dead, .dead, .dead, .dead, .dead, .dead, .dead, .dead, .dead, .dead, .dead, .dead, .dead, .dead, .dead, .dead, .dead, .dead, .dead, .dead, .dead, .dead, .dead, .dead, .dead, .dead, .dead, .dead, .dead, .dead, .dead, .dead, .dead, .dead, .dead, .dead, .dead, .dead, .dead, .dead, .dead, .dead, .dead, .dead, .dead, .dead, .dead, .dead, .dead, .dead, .dead]), (AX.ret, [.dead, .dead, .dead, .dead, .data .bool, .dead, .dead, .dead, .dead, .dead, .dead, .dead, .dead, .dead, .dead, .dead, .dead, .dead, .dead, .dead, .dead, .dead, .dead, .dead, .dead, .dead, .dead, .dead, .dead, .dead, .dead, .dead, .dead, .dead, .dead, .dead, .dead, .dead, .dead, .dead, .dead, .dead, .dead, .dead, .dead, .dead, .dead, .dead, .dead, .dead, .dead, .dead, .dead, .dead, .dead, .dead, .dead, .dead, .dead, .dead, .dead, .dead, .dead, .dead, .dead, .dead, .dead, .dead, .dead, .dead, .dead, .dead, .dead, .dead, .dead, .dead, .dead, .dead, .dead, .dead, .dead, .dead, .dead, .dead, .dead, .dead, .dead, .dead, .dead, .dead, .dead, .dead, .dead, .dead, .dead, .dead, .dead, .dead, .dead, .dead, .dead, .dead, .dead, .dead, .dead, .dead, .dead, .dead, .dead, .dead, .dead, .dead, .dead, .dead, .dead, .dead, .dead, .dead, .dead, .dead, .dead, .dead, .dead, .dead, .dead, .dead, .dead, .dead, .dead, .dead, .dead, .dead, .dead, .dead, .dead, .dead, .dead, .dead, .dead, .dead, .dead, .dead, .dead, .dead, .dead, .dead, .dead, .dead, .dead, .dead, .dead, .dead, .dead, .dead, .dead, .dead, .dead, .dead, .dead, .dead, .dead, .dead, .dead, .dead, .dead, .dead, .dead, .dead, .dead, .dead, .dead, .dead, .dead, .dead, .dead, .dead, .dead, .dead, .dead, .dead, .dead, .dead, .dead, .dead, .dead, .dead, .dead, .dead, .dead, .dead, .dead, .dead, .dead, .dead, .dead, .dead, .dead, .dead, .dead, .dead, .dead, .dead, .dead, .dead, .dead, .dead, .dead, .dead, .dead, .dead, .dead, .dead, .dead, .dead, .dead, .dead])]),
  (20, [(AX.normal, [.dead, .dead, .box [.d (.st (.pair (.st (.pair (.sl (.int .i64)) .bool)) (.sl (.int .i64))))], .box [.d (.st (.pair (.st (.pair (.sl (.int .i64)) .bool)) (.sl (.int .i64))))], .dead, .dead, .dead, .dead, .dead, .dead, .box [.sl (.int .i64), .d .bool, .sl (.int .i64)], .dead, .box [.sl (.int .i64), .d .bool, .sl (.int .i64)], .dead, .dead, .dead, .dead, .dead, .dead, .dead, .dead, .dead, .dead, .dead, .dead, .dead, .dead, .dead, .dead, .dead, .dead, .dead, .dead, .dead, .dead, .dead, .dead, .dead, .dead, .dead, .dead, .dead, .dead, .dead, .dead, .dead, .dead, .dead, .dead, .dead, .dead, .dead, .dead, .dead, .dead, .dead, .dead, .dead, .dead, .dead, .dead, .dead, .dead, .dead, .dead, .dead, .dead, .dead, .dead, .dead, .dead, .dead, .dead, .dead, .dead, .dead, .dead, .dead, .dead, .dead, .dead, .dead, .dead, .dead, .dead, .dead, .dead, .dead, .dead, .dead, .dead, .dead, .dead, .dead, .dead, .dead, .dead, .dead, .dead, .dead, .dead, .dead, .dead, .dead, .dead, .dead, .dead, .dead, .dead, .dead, .dead, .dead, .dead, .dead, .dead, .dead, .dead, .dead, .dead, .dead, .dead, .dead, .dead, .dead, .dead, .dead, .dead, .dead, .dead, .dead, .dead, .dead, .dead, .dead, .dead, .dead, .dead, .dead, .dead, .dead, .dead, .dead, .dead, .dead, .dead, .dead, .dead, .dead, .dead, .dead, .dead, .dead, .dead, .dead, .data .bool, .dead, .dead, .dead, .dead, .dead, .dead, .dead, .dead, .dead, .dead, .dead, .dead, .dead, .dead, .dead, .dead, .dead, .dead, .dead, .dead, .dead, .dead, .dead, .dead, .dead, .dead, .dead, .dead, .dead, .dead, .dead, .dead, .dead, .dead, .dead, .dead, .dead, .dead, .dead, .dead, .dead, .dead, .dead, .dead, .dead, .dead, .dead, .dead, .dead, .dead, .dead, .dead, .dead, .dead, .dead, .dead, .dead, .dead, .dead, .dead, .dead])]),
  (15, [(AX.normal, [.dead, .dead, .box [.d (.st (.pair (.st (.pair (.sl (.int .i64)) .bool)) (.sl (.int .i64))))], .box [.d (.st (.pair (.st (.pair (.sl (.int .i64)) .bool)) (.sl (.int .i64))))], .dead, .dead, .box [.d (.st (.pair (.st (.pair (.sl (.int .i64)) .bool)) (.sl (.int .i64))))], .dead, .dead, .dead, .box [.sl (.int .i64), .d .bool, .sl (.int .i64)], .dead, .box [.sl (.int .i64), .d .bool, .sl (.int .i64)], .dead, .dead, .dead, .dead, .dead, .dead, .dead, .dead, .dead, .dead, .dead, .dead, .dead, .dead, .dead, .dead, .dead, .dead, .dead, .dead, .dead, .dead, .dead, .dead, .dead, .dead, .dead, .dead, .dead, .dead, .dead, .dead, .dead, .dead, .dead, .dead, .dead, .dead, .dead, .dead, .dead, .dead, .dead, .dead, .dead, .dead, .dead, .dead, .dead, .dead, .dead, .dead, .dead, .dead, .dead, .dead, .dead, .dead, .dead, .dead, .dead, .dead, .dead, .dead, .dead, .dead, .dead, .dead, .dead, .dead, .dead, .dead, .dead, .dead, .dead, .dead, .dead, .dead, .dead, .dead, .dead, .dead, .dead, .dead, .dead, .dead, .dead, .dead, .dead, .dead, .dead, .dead, .dead, .dead, .dead, .dead, .dead, .dead, .dead, .dead, .dead, .dead, .dead, .dead, .dead, .dead, .dead, .dead, .dead, .dead, .dead, .dead, .dead, .dead, .dead, .dead, .dead, .dead, .dead, .dead, .dead, .dead, .dead, .dead, .data .bool, .dead, .dead, .dead, .dead, .dead, .dead, .dead, .dead, .dead, .dead, .dead, .dead, .dead, .dead, .dead, .dead, .dead, .dead, .dead, .dead, .dead, .dead, .dead, .dead, .dead, .dead, .dead, .dead, .dead, .dead, .dead, .dead, .dead, .dead, .dead, .dead, .dead, .dead, .dead, .dead, .dead, .dead, .dead, .dead, .dead, .dead, .dead, .dead, .dead, .dead, .dead, .dead, .dead, .dead, .dead, .dead, .dead, .dead, .dead, .dead, .dead, .dead, .dead, .dead, .dead, .dead, .dead, .dead, .dead, .dead, .dead, .dead, .dead, .dead, .dead, .dead, .dead, .dead])]),
  (6, [(AX.normal, [.dead, .dead, .box [.d (.st (.pair (.st (.pair (.sl (.int .i64)) .bool)) (.sl (.int .i64))))], .box [.d (.st (.pair (.st (.pair (.sl (.int .i64)) .bool)) (.sl (.int .i64))))], .dead, .data .bool, .dead, .dead, .dead, .dead, .dead, .dead, .dead, .dead, .dead, .dead, .dead, .dead, .dead, .dead, .dead, .dead, .dead, .dead, .dead, .dead, .dead, .dead, .dead, .dead, .dead, .dead, .dead, .dead, .dead, .dead, .dead, .dead, .dead, .dead, .dead, .dead, .dead, .dead, .dead, .dead, .dead, .dead, .dead, .dead, .dead, .dead, .dead, .dead, .dead, .dead, .dead, .data .bool, .dead, .dead, .dead, .dead, .dead, .dead, .dead, .dead, .dead, .dead, .dead, .dead, .dead, .dead, .dead, .dead, .dead, .dead, .dead, .dead, .dead, .dead, .dead, .dead, .dead, .dead, .dead, .dead, .dead, .dead, .dead, .dead, .dead, .dead, .dead, .dead, .dead, .dead, .dead, .dead, .dead, .dead, .dead, .dead, .dead, .dead, .dead, .dead, .dead, .dead, .dead, .dead, .dead, .dead, .dead, .dead, .dead, .dead, .dead, .dead, .dead, .dead, .dead, .dead, .dead, .dead, .dead, .dead, .dead, .dead, .dead, .dead, .dead, .dead, .dead, .dead, .dead, .dead, .dead, .dead, .dead, .dead, .dead, .dead, .dead, .dead, .dead, .dead, .dead, .dead, .dead, .dead, .dead, .dead, .dead, .dead, .dead, .dead, .dead, .dead, .dead, .dead, .dead, .dead, .dead, .dead, .dead, .dead, .dead, .dead, .dead, .dead, .dead, .dead, .dead, .dead, .dead, .dead, .dead, .dead, .dead, .dead, .dead, .dead, .dead, .dead, .dead, .dead, .dead, .dead, .dead, .dead, .dead, .dead, .dead, .dead, .dead, .dead, .dead, .dead, .dead, .dead, .dead, .dead, .dead, .dead, .dead, .dead, .dead, .dead, .dead, .dead, .dead, .dead, .dead, .dead, .dead, .dead])])]
def F_lodgelaw7_ElemLaws (N : Nat) (a_0 : ((List Int × Bool) × List Int)) (b_1 : ((List Int × Bool) × List Int)) : Option (Bool × Unit) :=
  Option.bind (F_lodgelaw7_first N) fun y0 =>
  cond (Bool.not (y0).1)
    (
    some (false, ()))
    (
    Option.bind (
        Option.bind (F_lodgeworld_Tensor N a_0 (300 : Int)) fun y1 =>
        cond (Bool.not (y1).1)
          (
          some ((a_0, ()), ((b_1, ()), ((y0).1, (true, ())))))
          (
          Option.bind (F_lodgeworld_Tensor N b_1 (300 : Int)) fun y2 =>
          cond (Bool.not (y2).1)
            (
            some ((a_0, ()), ((b_1, ()), ((y0).1, (true, ())))))
            (
            Option.bind (F_lodgeref3_Good N a_0) fun y3 =>
            cond (Bool.not (y3).1)
              (
              some ((a_0, ()), ((b_1, ()), ((y0).1, (true, ())))))
              (
              Option.bind (F_lodgeref3_Good N b_1) fun y4 =>
              cond (Bool.not (y4).1)
                (
                some ((a_0, ()), ((b_1, ()), ((y0).1, (true, ())))))
                (
                Option.bind (F_lodgeref_SameDesc N (a_0).1 (b_1).1) fun y5 =>
                cond (Bool.not (y5).1)
                  (
                  some ((a_0, ()), ((b_1, ()), ((y0).1, (true, ())))))
                  (
                  some ((a_0, ()), ((b_1, ()), ((y0).1, ((Bool.not (y0).1), ())))))))))) fun y6 =>
    cond ((((y6).2).2).2).1
      (
      some ((((y6).2).2).1, ()))
      (
      Option.bind (F_elem_Two N (4 : Int) ((y6).1).1 (((y6).2).1).1) fun y7 =>
      Option.bind (F_elem_Two N (4 : Int) (((y6).2).1).1 ((y6).1).1) fun y8 =>
      Option.bind (F_elem_Two N (7 : Int) ((y6).1).1 (((y6).2).1).1) fun y9 =>
      Option.bind (F_elem_One N (8 : Int) ((y6).1).1 ([] : List Int)) fun y10 =>
      Option.bind (F_elem_Two N (6 : Int) ((y6).1).1 (((y6).2).1).1) fun y11 =>
      Option.bind (F_elem_Two N (6 : Int) (((y6).2).1).1 ((y6).1).1) fun y12 =>
      Option.bind (
          cond (Bool.not (Go.Eng.Er.isNil ((y7).2).1))
            (
            cond (decide (((0 : Nat) + (List.length ((y7).1).1)) ≤ (List.length ((y7).1).1)))
              (
              cond (decide (((0 : Nat) + (List.length ((((y7).1).2).2).1)) ≤ (List.length ((((y7).1).2).2).1)))
                (
                cond (decide (((0 : Nat) + (List.length ((y7).1).1)) ≤ (List.length ((y7).1).1)))
                  (
                  cond (decide (((0 : Nat) + (List.length ((((y7).1).2).2).1)) ≤ (List.length ((((y7).1).2).2).1)))
                    (
                    cond (decide ((List.length ((y9).1).1) = (List.length ((y9).1).1)))
                      (
                      cond (decide ((List.length ((((y9).1).2).2).1) = (List.length ((((y9).1).2).2).1)))
                        (
                        cond (decide ((List.length ((y10).1).1) = (List.length ((y10).1).1)))
                          (
                          cond (decide ((List.length ((((y10).1).2).2).1) = (List.length ((((y10).1).2).2).1)))
                            (
                            some ((y6).1, (((y6).2).1, (((((List.take (List.length ((y7).1).1) ((y7).1).1), (((y7).1).2).1), (List.take (List.length ((((y7).1).2).2).1) ((((y7).1).2).2).1)), ()), ((y9).1, ((y10).1, (true, ())))))))
                            (
                            none))
                          (
                          none))
                        (
                        none))
                      (
                      none))
                    (
                    none))
                  (
                  none))
                (
                none))
              (
              none))
            (
            cond (Bool.not (Go.Eng.Er.isNil ((y8).2).1))
              (
              cond (decide (((0 : Nat) + (List.length ((y7).1).1)) ≤ (List.length ((y7).1).1)))
                (
                cond (decide (((0 : Nat) + (List.length ((((y7).1).2).2).1)) ≤ (List.length ((((y7).1).2).2).1)))
                  (
                  cond (decide (((0 : Nat) + (List.length ((y7).1).1)) ≤ (List.length ((y7).1).1)))
                    (
                    cond (decide (((0 : Nat) + (List.length ((((y7).1).2).2).1)) ≤ (List.length ((((y7).1).2).2).1)))
                      (
                      cond (decide ((List.length ((y9).1).1) = (List.length ((y9).1).1)))
                        (
                        cond (decide ((List.length ((((y9).1).2).2).1) = (List.length ((((y9).1).2).2).1)))
                          (
                          cond (decide ((List.length ((y10).1).1) = (List.length ((y10).1).1)))
                            (
                            cond (decide ((List.length ((((y10).1).2).2).1) = (List.length ((((y10).1).2).2).1)))
                              (
                              some ((y6).1, (((y6).2).1, (((((List.take (List.length ((y7).1).1) ((y7).1).1), (((y7).1).2).1), (List.take (List.length ((((y7).1).2).2).1) ((((y7).1).2).2).1)), ()), ((y9).1, ((y10).1, (true, ())))))))
                              (
                              none))
                            (
                            none))
                          (
                          none))
                        (
                        none))
                      (
                      none))
                    (
                    none))
                  (
                  none))
                (
                none))
              (
              cond (Bool.not (Go.Eng.Er.isNil ((y9).2).1))
                (
                cond (decide (((0 : Nat) + (List.length ((y7).1).1)) ≤ (List.length ((y7).1).1)))
                  (
                  cond (decide (((0 : Nat) + (List.length ((((y7).1).2).2).1)) ≤ (List.length ((((y7).1).2).2).1)))
                    (
                    cond (decide (((0 : Nat) + (List.length ((y7).1).1)) ≤ (List.length ((y7).1).1)))
                      (
                      cond (decide (((0 : Nat) + (List.length ((((y7).1).2).2).1)) ≤ (List.length ((((y7).1).2).2).1)))
                        (
                        cond (decide ((List.length ((y9).1).1) = (List.length ((y9).1).1)))
                          (
                          cond (decide ((List.length ((((y9).1).2).2).1) = (List.length ((((y9).1).2).2).1)))
                            (
                            cond (decide ((List.length ((y10).1).1) = (List.length ((y10).1).1)))
                              (
                              cond (decide ((List.length ((((y10).1).2).2).1) = (List.length ((((y10).1).2).2).1)))
                                (
                                some ((y6).1, (((y6).2).1, (((((List.take (List.length ((y7).1).1) ((y7).1).1), (((y7).1).2).1), (List.take (List.length ((((y7).1).2).2).1) ((((y7).1).2).2).1)), ()), ((y9).1, ((y10).1, (true, ())))))))
                                (
                                none))
                              (
                              none))
                            (
                            none))
                          (
                          none))
                        (
                        none))
                      (
                      none))
                    (
                    none))
                  (
                  none))
                (
                cond (Bool.not (Go.Eng.Er.isNil ((y10).2).1))
                  (
                  cond (decide (((0 : Nat) + (List.length ((y7).1).1)) ≤ (List.length ((y7).1).1)))
                    (
                    cond (decide (((0 : Nat) + (List.length ((((y7).1).2).2).1)) ≤ (List.length ((((y7).1).2).2).1)))
                      (
                      cond (decide (((0 : Nat) + (List.length ((y7).1).1)) ≤ (List.length ((y7).1).1)))
                        (
                        cond (decide (((0 : Nat) + (List.length ((((y7).1).2).2).1)) ≤ (List.length ((((y7).1).2).2).1)))
                          (
                          cond (decide ((List.length ((y9).1).1) = (List.length ((y9).1).1)))
                            (
                            cond (decide ((List.length ((((y9).1).2).2).1) = (List.length ((((y9).1).2).2).1)))
                              (
                              cond (decide ((List.length ((y10).1).1) = (List.length ((y10).1).1)))
                                (
                                cond (decide ((List.length ((((y10).1).2).2).1) = (List.length ((((y10).1).2).2).1)))
                                  (
                                  some ((y6).1, (((y6).2).1, (((((List.take (List.length ((y7).1).1) ((y7).1).1), (((y7).1).2).1), (List.take (List.length ((((y7).1).2).2).1) ((((y7).1).2).2).1)), ()), ((y9).1, ((y10).1, (true, ())))))))
                                  (
                                  none))
                                (
                                none))
                              (
                              none))
                            (
                            none))
                          (
                          none))
                        (
                        none))
                      (
                      none))
                    (
                    none))
                  (
                  cond (Bool.not (Go.Eng.Er.isNil ((y11).2).1))
                    (
                    cond (decide (((0 : Nat) + (List.length ((y7).1).1)) ≤ (List.length ((y7).1).1)))
                      (
                      cond (decide (((0 : Nat) + (List.length ((((y7).1).2).2).1)) ≤ (List.length ((((y7).1).2).2).1)))
                        (
                        cond (decide (((0 : Nat) + (List.length ((y7).1).1)) ≤ (List.length ((y7).1).1)))
                          (
                          cond (decide (((0 : Nat) + (List.length ((((y7).1).2).2).1)) ≤ (List.length ((((y7).1).2).2).1)))
                            (
                            cond (decide ((List.length ((y9).1).1) = (List.length ((y9).1).1)))
                              (
                              cond (decide ((List.length ((((y9).1).2).2).1) = (List.length ((((y9).1).2).2).1)))
                                (
                                cond (decide ((List.length ((y10).1).1) = (List.length ((y10).1).1)))
                                  (
                                  cond (decide ((List.length ((((y10).1).2).2).1) = (List.length ((((y10).1).2).2).1)))
                                    (
                                    some ((y6).1, (((y6).2).1, (((((List.take (List.length ((y7).1).1) ((y7).1).1), (((y7).1).2).1), (List.take (List.length ((((y7).1).2).2).1) ((((y7).1).2).2).1)), ()), ((y9).1, ((y10).1, (true, ())))))))
                                    (
                                    none))
                                  (
                                  none))
                                (
                                none))
                              (
                              none))
                            (
                            none))
                          (
                          none))
                        (
                        none))
                      (
                      none))
                    (
                    cond (Bool.not (Go.Eng.Er.isNil ((y12).2).1))
                      (
                      cond (decide (((0 : Nat) + (List.length ((y7).1).1)) ≤ (List.length ((y7).1).1)))
                        (
                        cond (decide (((0 : Nat) + (List.length ((((y7).1).2).2).1)) ≤ (List.length ((((y7).1).2).2).1)))
                          (
                          cond (decide (((0 : Nat) + (List.length ((y7).1).1)) ≤ (List.length ((y7).1).1)))
                            (
                            cond (decide (((0 : Nat) + (List.length ((((y7).1).2).2).1)) ≤ (List.length ((((y7).1).2).2).1)))
                              (
                              cond (decide ((List.length ((y9).1).1) = (List.length ((y9).1).1)))
                                (
                                cond (decide ((List.length ((((y9).1).2).2).1) = (List.length ((((y9).1).2).2).1)))
                                  (
                                  cond (decide ((List.length ((y10).1).1) = (List.length ((y10).1).1)))
                                    (
                                    cond (decide ((List.length ((((y10).1).2).2).1) = (List.length ((((y10).1).2).2).1)))
                                      (
                                      some ((y6).1, (((y6).2).1, (((((List.take (List.length ((y7).1).1) ((y7).1).1), (((y7).1).2).1), (List.take (List.length ((((y7).1).2).2).1) ((((y7).1).2).2).1)), ()), ((y9).1, ((y10).1, (true, ())))))))
                                      (
                                      none))
                                    (
                                    none))
                                  (
                                  none))
                                (
                                none))
                              (
                              none))
                            (
                            none))
                          (
                          none))
                        (
                        none))
                      (
                      cond (decide (((0 : Nat) + (List.length ((y7).1).1)) ≤ (List.length ((y7).1).1)))
                        (
                        cond (decide (((0 : Nat) + (List.length ((((y7).1).2).2).1)) ≤ (List.length ((((y7).1).2).2).1)))
                          (
                          cond (decide (((0 : Nat) + (List.length ((y8).1).1)) ≤ (List.length ((y8).1).1)))
                            (
                            cond (decide (((0 : Nat) + (List.length ((((y8).1).2).2).1)) ≤ (List.length ((((y8).1).2).2).1)))
                              (
                              Option.bind (F_tens_Same N (((List.take (List.length ((y7).1).1) ((y7).1).1), (((y7).1).2).1), (List.take (List.length ((((y7).1).2).2).1) ((((y7).1).2).2).1)) (((List.take (List.length ((y8).1).1) ((y8).1).1), (((y8).1).2).1), (List.take (List.length ((((y8).1).2).2).1) ((((y8).1).2).2).1))) fun y13 =>
                              cond (Bool.not (y13).1)
                                (
                                cond (decide (((0 : Nat) + (List.length ((y7).1).1)) ≤ (List.length ((y7).1).1)))
                                  (
                                  cond (decide (((0 : Nat) + (List.length ((((y7).1).2).2).1)) ≤ (List.length ((((y7).1).2).2).1)))
                                    (
                                    cond (decide (((0 : Nat) + (List.length ((y7).1).1)) ≤ (List.length ((y7).1).1)))
                                      (
                                      cond (decide (((0 : Nat) + (List.length ((((y7).1).2).2).1)) ≤ (List.length ((((y7).1).2).2).1)))
                                        (
                                        cond (decide ((List.length ((y9).1).1) = (List.length ((y9).1).1)))
                                          (
                                          cond (decide ((List.length ((((y9).1).2).2).1) = (List.length ((((y9).1).2).2).1)))
                                            (
                                            cond (decide ((List.length ((y10).1).1) = (List.length ((y10).1).1)))
                                              (
                                              cond (decide ((List.length ((((y10).1).2).2).1) = (List.length ((((y10).1).2).2).1)))
                                                (
                                                some ((y6).1, (((y6).2).1, (((((List.take (List.length ((y7).1).1) ((y7).1).1), (((y7).1).2).1), (List.take (List.length ((((y7).1).2).2).1) ((((y7).1).2).2).1)), ()), ((y9).1, ((y10).1, (true, ())))))))
                                                (
                                                none))
                                              (
                                              none))
                                            (
                                            none))
                                          (
                                          none))
                                        (
                                        none))
                                      (
                                      none))
                                    (
                                    none))
                                  (
                                  none))
                                (
                                cond (decide (((0 : Nat) + (List.length ((y11).1).1)) ≤ (List.length ((y11).1).1)))
                                  (
                                  cond (decide (((0 : Nat) + (List.length ((((y11).1).2).2).1)) ≤ (List.length ((((y11).1).2).2).1)))
                                    (
                                    cond (decide (((0 : Nat) + (List.length ((y12).1).1)) ≤ (List.length ((y12).1).1)))
                                      (
                                      cond (decide (((0 : Nat) + (List.length ((((y12).1).2).2).1)) ≤ (List.length ((((y12).1).2).2).1)))
                                        (
                                        Option.bind (F_tens_Same N (((List.take (List.length ((y11).1).1) ((y11).1).1), (((y11).1).2).1), (List.take (List.length ((((y11).1).2).2).1) ((((y11).1).2).2).1)) (((List.take (List.length ((y12).1).1) ((y12).1).1), (((y12).1).2).1), (List.take (List.length ((((y12).1).2).2).1) ((((y12).1).2).2).1))) fun y14 =>
                                        cond (Bool.not (y14).1)
                                          (
                                          cond (decide (((0 : Nat) + (List.length ((y7).1).1)) ≤ (List.length ((y7).1).1)))
                                            (
                                            cond (decide (((0 : Nat) + (List.length ((((y7).1).2).2).1)) ≤ (List.length ((((y7).1).2).2).1)))
                                              (
                                              cond (decide (((0 : Nat) + (List.length ((y7).1).1)) ≤ (List.length ((y7).1).1)))
                                                (
                                                cond (decide (((0 : Nat) + (List.length ((((y7).1).2).2).1)) ≤ (List.length ((((y7).1).2).2).1)))
                                                  (
                                                  cond (decide ((List.length ((y9).1).1) = (List.length ((y9).1).1)))
                                                    (
                                                    cond (decide ((List.length ((((y9).1).2).2).1) = (List.length ((((y9).1).2).2).1)))
                                                      (
                                                      cond (decide ((List.length ((y10).1).1) = (List.length ((y10).1).1)))
                                                        (
                                                        cond (decide ((List.length ((((y10).1).2).2).1) = (List.length ((((y10).1).2).2).1)))
                                                          (
                                                          some ((y6).1, (((y6).2).1, (((((List.take (List.length ((y7).1).1) ((y7).1).1), (((y7).1).2).1), (List.take (List.length ((((y7).1).2).2).1) ((((y7).1).2).2).1)), ()), ((y9).1, ((y10).1, (true, ())))))))
                                                          (
                                                          none))
                                                        (
                                                        none))
                                                      (
                                                      none))
                                                    (
                                                    none))
                                                  (
                                                  none))
                                                (
                                                none))
                                              (
                                              none))
                                            (
                                            none))
                                          (
                                          cond (decide (((0 : Nat) + (List.length ((y7).1).1)) ≤ (List.length ((y7).1).1)))
                                            (
                                            cond (decide (((0 : Nat) + (List.length ((((y7).1).2).2).1)) ≤ (List.length ((((y7).1).2).2).1)))
                                              (
                                              Option.bind (F_tens_Valid N (((List.take (List.length ((y7).1).1) ((y7).1).1), (((y7).1).2).1), (List.take (List.length ((((y7).1).2).2).1) ((((y7).1).2).2).1))) fun y15 =>
                                              cond (Bool.not (Go.Eng.Er.isNil (y15).1))
                                                (
                                                cond (decide (((0 : Nat) + (List.length ((y7).1).1)) ≤ (List.length ((y7).1).1)))
                                                  (
                                                  cond (decide (((0 : Nat) + (List.length ((((y7).1).2).2).1)) ≤ (List.length ((((y7).1).2).2).1)))
                                                    (
                                                    cond (decide (((0 : Nat) + (List.length ((y7).1).1)) ≤ (List.length ((y7).1).1)))
                                                      (
                                                      cond (decide (((0 : Nat) + (List.length ((((y7).1).2).2).1)) ≤ (List.length ((((y7).1).2).2).1)))
                                                        (
                                                        cond (decide ((List.length ((y9).1).1) = (List.length ((y9).1).1)))
                                                          (
                                                          cond (decide ((List.length ((((y9).1).2).2).1) = (List.length ((((y9).1).2).2).1)))
                                                            (
                                                            cond (decide ((List.length ((y10).1).1) = (List.length ((y10).1).1)))
                                                              (
                                                              cond (decide ((List.length ((((y10).1).2).2).1) = (List.length ((((y10).1).2).2).1)))
                                                                (
                                                                some ((y6).1, (((y6).2).1, (((((List.take (List.length ((y7).1).1) ((y7).1).1), (((y7).1).2).1), (List.take (List.length ((((y7).1).2).2).1) ((((y7).1).2).2).1)), ()), ((y9).1, ((y10).1, (true, ())))))))
                                                                (
                                                                none))
                                                              (
                                                              none))
                                                            (
                                                            none))
                                                          (
                                                          none))
                                                        (
                                                        none))
                                                      (
                                                      none))
                                                    (
                                                    none))
                                                  (
                                                  none))
                                                (
                                                cond (decide (((0 : Nat) + (List.length ((y11).1).1)) ≤ (List.length ((y11).1).1)))
                                                  (
                                                  cond (decide (((0 : Nat) + (List.length ((((y11).1).2).2).1)) ≤ (List.length ((((y11).1).2).2).1)))
                                                    (
                                                    Option.bind (F_tens_Valid N (((List.take (List.length ((y11).1).1) ((y11).1).1), (((y11).1).2).1), (List.take (List.length ((((y11).1).2).2).1) ((((y11).1).2).2).1))) fun y16 =>
                                                    cond (decide (((0 : Nat) + (List.length ((y7).1).1)) ≤ (List.length ((y7).1).1)))
                                                      (
                                                      cond (decide (((0 : Nat) + (List.length ((((y7).1).2).2).1)) ≤ (List.length ((((y7).1).2).2).1)))
                                                        (
                                                        cond (decide (((0 : Nat) + (List.length ((y7).1).1)) ≤ (List.length ((y7).1).1)))
                                                          (
                                                          cond (decide (((0 : Nat) + (List.length ((((y7).1).2).2).1)) ≤ (List.length ((((y7).1).2).2).1)))
                                                            (
                                                            cond (decide ((List.length ((y9).1).1) = (List.length ((y9).1).1)))
                                                              (
                                                              cond (decide ((List.length ((((y9).1).2).2).1) = (List.length ((((y9).1).2).2).1)))
                                                                (
                                                                cond (decide ((List.length ((y10).1).1) = (List.length ((y10).1).1)))
                                                                  (
                                                                  cond (decide ((List.length ((((y10).1).2).2).1) = (List.length ((((y10).1).2).2).1)))
                                                                    (
                                                                    some ((y6).1, (((y6).2).1, (((((List.take (List.length ((y7).1).1) ((y7).1).1), (((y7).1).2).1), (List.take (List.length ((((y7).1).2).2).1) ((((y7).1).2).2).1)), ()), ((y9).1, ((y10).1, ((Bool.not (Go.Eng.Er.isNil (y16).1)), ())))))))
                                                                    (
                                                                    none))
                                                                  (
                                                                  none))
                                                                (
                                                                none))
                                                              (
                                                              none))
                                                            (
                                                            none))
                                                          (
                                                          none))
                                                        (
                                                        none))
                                                      (
                                                      none))
                                                    (
                                                    none))
                                                  (
                                                  none)))
                                              (
                                              none))
                                            (
                                            none)))
                                        (
                                        none))
                                      (
                                      none))
                                    (
                                    none))
                                  (
                                  none)))
                              (
                              none))
                            (
                            none))
                          (
                          none))
                        (
                        none)))))))) fun y17 =>
      cond ((((((y17).2).2).2).2).2).1
        (
        some (false, ()))
        (
        Option.bind (
            cond ((((y17).1).1).1).2
              (
              Option.bind (F_elem_Two N (5 : Int) ((((y17).2).2).1).1 (((y17).2).1).1) fun y18 =>
              Option.bind (
                  cond (Bool.not (Go.Eng.Er.isNil ((y18).2).1))
                    (
                    cond (decide ((List.length (((((y17).2).2).2).1).1) = (List.length (((((y17).2).2).2).1).1)))
                      (
                      cond (decide ((List.length (((((((y17).2).2).2).1).2).2).1) = (List.length (((((((y17).2).2).2).1).2).2).1)))
                        (
                        cond (decide ((List.length ((((((y17).2).2).2).2).1).1) = (List.length ((((((y17).2).2).2).2).1).1)))
                          (
                          cond (decide ((List.length ((((((((y17).2).2).2).2).1).2).2).1) = (List.length ((((((((y17).2).2).2).2).1).2).2).1)))
                            (
                            some ((y17).1, (((y17).2).1, (((((y17).2).2).2).1, ((((((y17).2).2).2).2).1, (true, ()))))))
                            (
                            none))
                          (
                          none))
                        (
                        none))
                      (
                      none))
                    (
                    cond (decide (((0 : Nat) + (List.length ((y18).1).1)) ≤ (List.length ((y18).1).1)))
                      (
                      cond (decide (((0 : Nat) + (List.length ((((y18).1).2).2).1)) ≤ (List.length ((((y18).1).2).2).1)))
                        (
                        Option.bind (F_tens_Same N (((List.take (List.length ((y18).1).1) ((y18).1).1), (((y18).1).2).1), (List.take (List.length ((((y18).1).2).2).1) ((((y18).1).2).2).1)) ((y17).1).1) fun y19 =>
                        cond (decide ((List.length (((((y17).2).2).2).1).1) = (List.length (((((y17).2).2).2).1).1)))
                          (
                          cond (decide ((List.length (((((((y17).2).2).2).1).2).2).1) = (List.length (((((((y17).2).2).2).1).2).2).1)))
                            (
                            cond (decide ((List.length ((((((y17).2).2).2).2).1).1) = (List.length ((((((y17).2).2).2).2).1).1)))
                              (
                              cond (decide ((List.length ((((((((y17).2).2).2).2).1).2).2).1) = (List.length ((((((((y17).2).2).2).2).1).2).2).1)))
                                (
                                some ((y17).1, (((y17).2).1, (((((y17).2).2).2).1, ((((((y17).2).2).2).2).1, ((Bool.not (y19).1), ()))))))
                                (
                                none))
                              (
                              none))
                            (
                            none))
                          (
                          none))
                        (
                        none))
                      (
                      none))) fun y20 =>
              cond (((((y20).2).2).2).2).1
                (
                some (Sum.inr (false, ())))
                (
                cond (decide ((List.length ((((y20).2).2).1).1) = (List.length ((((y20).2).2).1).1)))
                  (
                  cond (decide ((List.length ((((((y20).2).2).1).2).2).1) = (List.length ((((((y20).2).2).1).2).2).1)))
                    (
                    cond (decide ((List.length (((((y20).2).2).2).1).1) = (List.length (((((y20).2).2).2).1).1)))
                      (
                      cond (decide ((List.length (((((((y20).2).2).2).1).2).2).1) = (List.length (((((((y20).2).2).2).1).2).2).1)))
                        (
                        some (Sum.inl ((y20).1, (((y20).2).1, ((((y20).2).2).1, (((((y20).2).2).2).1, ()))))))
                        (
                        none))
                      (
                      none))
                    (
                    none))
                  (
                  none)))
              (
              cond (decide ((List.length (((((y17).2).2).2).1).1) = (List.length (((((y17).2).2).2).1).1)))
                (
                cond (decide ((List.length (((((((y17).2).2).2).1).2).2).1) = (List.length (((((((y17).2).2).2).1).2).2).1)))
                  (
                  cond (decide ((List.length ((((((y17).2).2).2).2).1).1) = (List.length ((((((y17).2).2).2).2).1).1)))
                    (
                    cond (decide ((List.length ((((((((y17).2).2).2).2).1).2).2).1) = (List.length ((((((((y17).2).2).2).2).1).2).2).1)))
                      (
                      some (Sum.inl ((y17).1, (((y17).2).1, (((((y17).2).2).2).1, ((((((y17).2).2).2).2).1, ()))))))
                      (
                      none))
                    (
                    none))
                  (
                  none))
                (
                none))) fun y21 =>
        Sum.elim (fun y22 =>
          cond (decide ((List.length ((((y22).2).2).1).1) = (List.length ((((y22).2).2).1).1)))
            (
            cond (decide ((List.length ((((((y22).2).2).1).2).2).1) = (List.length ((((((y22).2).2).1).2).2).1)))
              (
              cond (decide ((List.length (((((y22).2).2).2).1).1) = (List.length (((((y22).2).2).2).1).1)))
                (
                cond (decide ((List.length (((((((y22).2).2).2).1).2).2).1) = (List.length (((((((y22).2).2).2).1).2).2).1)))
                  (
                  Option.bind (g_lodgelaw7_ElemLaws_0 N N (y22).1 ((y22).2).1 (((y22).2).2).1 ((((y22).2).2).2).1 (0 : Int)) fun y23 =>
                  Sum.elim (fun y24 =>
                    Option.bind (F_elem_One N (9 : Int) ((y24).1).1 ((-(3 : Int)) :: ((3 : Int) :: ([] : List Int)))) fun y25 =>
                    cond (decide (((0 : Nat) + (List.length ((y25).1).1)) ≤ (List.length ((y25).1).1)))
                      (
                      cond (decide (((0 : Nat) + (List.length ((((y25).1).2).2).1)) ≤ (List.length ((((y25).1).2).2).1)))
                        (
                        Option.bind (F_elem_One N (9 : Int) (((List.take (List.length ((y25).1).1) ((y25).1).1), (((y25).1).2).1), (List.take (List.length ((((y25).1).2).2).1) ((((y25).1).2).2).1)) ((-(3 : Int)) :: ((3 : Int) :: ([] : List Int)))) fun y26 =>
                        cond (Go.Eng.Er.isNil ((y25).2).1)
                          (
                          cond (Go.Eng.Er.isNil ((y26).2).1)
                            (
                            cond (decide (((0 : Nat) + (List.length ((y25).1).1)) ≤ (List.length ((y25).1).1)))
                              (
                              cond (decide (((0 : Nat) + (List.length ((((y25).1).2).2).1)) ≤ (List.length ((((y25).1).2).2).1)))
                                (
                                cond (decide (((0 : Nat) + (List.length ((y26).1).1)) ≤ (List.length ((y26).1).1)))
                                  (
                                  cond (decide (((0 : Nat) + (List.length ((((y26).1).2).2).1)) ≤ (List.length ((((y26).1).2).2).1)))
                                    (
                                    Option.bind (F_tens_Same N (((List.take (List.length ((y25).1).1) ((y25).1).1), (((y25).1).2).1), (List.take (List.length ((((y25).1).2).2).1) ((((y25).1).2).2).1)) (((List.take (List.length ((y26).1).1) ((y26).1).1), (((y26).1).2).1), (List.take (List.length ((((y26).1).2).2).1) ((((y26).1).2).2).1))) fun y27 =>
                                    some y27)
                                    (
                                    none))
                                  (
                                  none))
                                (
                                none))
                              (
                              none))
                            (
                            some (false, ())))
                          (
                          some (false, ())))
                        (
                        none))
                      (
                      none))
                    (fun y28 =>
                    some y28) y23)
                  (
                  none))
                (
                none))
              (
              none))
            (
            none))
          (fun y29 =>
          some y29) y21)))

abbrev c_lodgelaw7_ElemLaws (N : Nat) : CallSpec := ⟨8, ps_lodgelaw7_ElemLaws, rs_lodgelaw7_ElemLaws, fun x => F_lodgelaw7_ElemLaws N x.1 x.2.1⟩
abbrev l_lodgelaw7_ElemLaws_0 (N : Nat) : LoopSpec := ⟨0, h_lodgelaw7_ElemLaws_0, e_lodgelaw7_ElemLaws_0, fun x => g_lodgelaw7_ElemLaws_0 N N x.1 x.2.1 x.2.2.1 x.2.2.2.1 x.2.2.2.2.1⟩

theorem cs_lodgelaw7_ElemLaws_ok (S : Nat → Addr) (N : Nat) : CallsOK Go.Proofs.Tryd.prog E S (cs_lodgelaw7_ElemLaws N) :=
  .cons (F_tens_Valid_ok S N) (.cons (F_elem_Two_ok S N) (.cons (F_lodgelaw7_first_ok S N) (.cons (F_elem_One_ok S N) (.cons (F_lodgeref_SameDesc_ok S N) (.cons (F_lodgeworld_Tensor_ok S N) (.cons (F_lodgeref3_Good_ok S N) (.cons (F_tens_Same_ok S N) (.nil))))))))
noncomputable abbrev b_lodgelaw7_ElemLaws_0 : Code := (loopsOf b_lodgelaw7_ElemLaws).getD 0 .skip
theorem g_lodgelaw7_ElemLaws_0_ok (S : Nat → Addr) (N : Nat) : ∀ n x y, (fun (x : Val (slotsTy h_lodgelaw7_ElemLaws_0)) => g_lodgelaw7_ElemLaws_0 N n x.1 x.2.1 x.2.2.1 x.2.2.2.1 x.2.2.2.2.1) x = some y → LoopCon Go.Proofs.Tryd.prog E S b_lodgelaw7_ElemLaws_0 (encSlots h_lodgelaw7_ElemLaws_0 x) (encEx e_lodgelaw7_ElemLaws_0 y).1 (encEx e_lodgelaw7_ElemLaws_0 y).2 :=
  loop_spec E_ok mixed (cs_lodgelaw7_ElemLaws_ok S N) (all := loopsOf b_lodgelaw7_ElemLaws) (ls := []) (.nil) (i := 0) (by kernel_rfl) (inner_of (by kernel_rfl)) (head := h_lodgelaw7_ElemLaws_0) (ex := e_lodgelaw7_ElemLaws_0) (fun n (x : Val (slotsTy h_lodgelaw7_ElemLaws_0)) => g_lodgelaw7_ElemLaws_0 N n x.1 x.2.1 x.2.2.1 x.2.2.2.1 x.2.2.2.2.1) (fun _ => rfl) (fun n x => by kernel_rfl)
theorem F_lodgelaw7_ElemLaws_ok (S : Nat → Addr) (N : Nat) : ∀ x y, (c_lodgelaw7_ElemLaws N).g x = some y → FCon Go.Proofs.Tryd.prog E S 8 ps_lodgelaw7_ElemLaws rs_lodgelaw7_ElemLaws x y := by
  intro x y h
  exact fun_specJ E_ok mixed (cs_lodgelaw7_ElemLaws_ok S N) (f := 8) (fi := ⟨b_lodgelaw7_ElemLaws, 216, Go.Proofs.Tryd.f8.results.toList⟩) (by kernel_rfl) (ls := [l_lodgelaw7_ElemLaws_0 N]) (.cons (by kernel_rfl) (g_lodgelaw7_ElemLaws_0_ok S N N) (.nil)) (js := j_lodgelaw7_ElemLaws) (by kernel_rfl) (ps := ps_lodgelaw7_ElemLaws) (rs := rs_lodgelaw7_ElemLaws) (Eq.trans (b := F_lodgelaw7_ElemLaws N x.1 x.2.1) (by kernel_rfl) h)

end Go.Proofs.YtmbcbocnncfpbaaDoor.Lg
