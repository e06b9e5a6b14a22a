/-
  The functions of the seat's program, as plain functions.
-/
import Derived.Test.YtohkmbpdjigjdaaDoorLgSoftAFc
namespace Go.Proofs.YtohkmbpdjigjdaaDoor.Lg
open Go Go.Eng Go.Proofs
set_option maxRecDepth 100000

/-! lodge/mat.narrow -/

abbrev ps_mat_narrow : List Ty := [(.int .i64)]
abbrev rs_mat_narrow : List Slot := [.data .bool]
abbrev cs_mat_narrow (N : Nat) : List CallSpec := [c_tens_Narrow N]
noncomputable abbrev b_mat_narrow : Code := (Go.Proofs.Tryd.f105.body).getD .skip

def F_mat_narrow (N : Nat) (n_0 : Int) : Option (Bool × Unit) :=
  Option.bind (F_tens_Narrow N n_0) fun y0 =>
  some ((decide ((y0).1 = n_0)), ())

abbrev c_mat_narrow (N : Nat) : CallSpec := ⟨105, ps_mat_narrow, rs_mat_narrow, fun x => F_mat_narrow N x.1⟩

theorem cs_mat_narrow_ok (S : Nat → Addr) (N : Nat) : CallsOK Go.Proofs.Tryd.prog E S (cs_mat_narrow N) :=
  .cons (F_tens_Narrow_ok S N) (.nil)
theorem F_mat_narrow_ok (S : Nat → Addr) (N : Nat) : ∀ x y, (c_mat_narrow N).g x = some y → FCon Go.Proofs.Tryd.prog E S 105 ps_mat_narrow rs_mat_narrow x y := by
  intro x y h
  exact fun_spec E_ok mixed (cs_mat_narrow_ok S N) (f := 105) (fi := ⟨b_mat_narrow, 7, Go.Proofs.Tryd.f105.results.toList⟩) (by kernel_rfl) (ls := []) (.nil) (by kernel_rfl) (ps := ps_mat_narrow) (rs := rs_mat_narrow) (Eq.trans (b := F_mat_narrow N x.1) (by kernel_rfl) h)

/-! lodge/mat.Result -/

abbrev ps_mat_Result : List Ty := [(.int .i64), (.int .i64), (.st (.pair (.sl (.int .i64)) .bool)), (.st (.pair (.sl (.int .i64)) .bool))]
abbrev rs_mat_Result : List Slot := [.data (.st (.pair (.sl (.int .i64)) .bool)), .data .err]
abbrev cs_mat_Result (N : Nat) : List CallSpec := [c_shape_Valid N, c_mat_narrow N]
noncomputable abbrev b_mat_Result : Code := (Go.Proofs.Tryd.f92.body).getD .skip

abbrev h_mat_Result_0 : List Slot := [.data (.int .i64), .data (.int .i64), .dead, .dead, .dead, .dead, .box [.d (.st (.pair (.sl (.int .i64)) .bool))], .box [.d (.st (.pair (.sl (.int .i64)) .bool))], .box [.sl (.int .i64), .d .bool], .dead, .dead, .dead, .dead, .dead, .dead, .dead, .dead, .sl (.st (.pair (.sl (.int .i64)) .bool)), .data (.int .i64), .data (.int .i64), .dead, .dead, .dead, .dead, .dead, .dead, .dead, .dead, .dead, .dead, .dead, .dead, .dead, .dead, .dead, .dead, .dead, .dead, .dead, .dead, .dead, .dead, .dead, .dead, .dead, .dead, .dead, .dead, .dead, .dead, .dead, .dead, .dead, .dead, .dead, .dead, .dead, .dead, .dead, .dead, .dead, .dead, .dead, .dead, .dead, .dead, .dead, .dead, .dead, .dead, .dead, .dead, .dead, .dead, .dead, .dead, .dead, .dead, .dead, .dead, .dead, .dead, .dead, .dead, .dead, .dead, .dead, .dead]
abbrev e_mat_Result_0 : List (AX × List Slot) := [(AX.exit 0, [.data (.int .i64), .data (.int .i64), .dead, .dead, .dead, .dead, .box [.d (.st (.pair (.sl (.int .i64)) .bool))], .box [.d (.st (.pair (.sl (.int .i64)) .bool))], .box [.sl (.int .i64), .d .bool], .dead, .dead, .dead, .dead, .dead, .dead, .dead, .dead, .dead, .dead, .dead, .dead, .dead, .dead, .dead, .dead, .dead, .dead, .dead, .dead, .dead, .dead, .dead, .dead, .dead, .dead, .dead, .dead, .dead, .dead, .dead, .dead, .dead, .dead, .dead, .dead, .dead, .dead, .dead, .dead, .dead, .dead, .dead, .dead, .dead, .dead, .dead, .dead, .dead, .dead, .dead, .dead, .dead, .dead, .dead, .dead, .dead, .dead, .dead, .dead, .dead, .dead, .dead, .dead, .dead, .dead, .dead, .dead, .dead, .dead, .dead, .dead, .dead, .dead, .dead, .dead, .dead, .dead, .dead]), (AX.ret, [.dead, .dead, .dead, .dead, .dead, .dead, .dead, .dead, .box [.sl (.int .i64), .d .bool], .data .err, .dead, .dead, .dead, .dead, .dead, .dead, .dead, .dead, .dead, .dead, .dead, .dead, .dead, .dead, .dead, .dead, .dead, .dead, .dead, .dead, .dead, .dead, .dead, .dead, .dead, .dead, .dead, .dead, .dead, .dead, .dead, .dead, .dead, .dead, .dead, .dead, .dead, .dead, .dead, .dead, .dead, .dead, .dead, .dead, .dead, .dead, .dead, .dead, .dead, .dead, .dead, .dead, .dead, .dead, .dead, .dead, .dead, .dead, .dead, .dead, .dead, .dead, .dead, .dead, .dead, .dead, .dead, .dead, .dead, .dead, .dead, .dead, .dead, .dead, .dead, .dead, .dead, .dead])]
def g_mat_Result_0 (N : Nat) : Nat → Int → Int → ((List Int × Bool) × Unit) → ((List Int × Bool) × Unit) → (List Int × (Bool × Unit)) → List ((List Int × Bool)) → Int → Int → Option (Sum (Int × (Int × (((List Int × Bool) × Unit) × (((List Int × Bool) × Unit) × ((List Int × (Bool × Unit)) × Unit))))) ((List Int × (Bool × Unit)) × (Er × Unit)))
  | 0, _, _, _, _, _, _, _, _ => none
  | n + 1, za_0, zb_1, a_6, b_7, t_8, t_17, t_18, t_19 =>
    cond (decide (t_19 < t_18))
      (
      cond (decide ((0 : Int) ≤ t_19))
        (
        cond (decide ((Int.toNat t_19) < (List.length t_17)))
          (
          cond (decide (((0 : Nat) + (Int.toNat t_19)) < (List.length t_17)))
            (
            Option.bind (F_shape_Valid N (List.getD t_17 ((0 : Nat) + (Int.toNat t_19)) (([] : List Int), false))) fun y1 =>
            cond (Bool.not (Go.Eng.Er.isNil (y1).1))
              (
              some (Sum.inr ((([] : List Int), (false, ())), y1)))
              (
              cond (decide ((List.length (t_8).1) = (List.length (t_8).1)))
                (
                cond (decide ((List.length t_17) = (List.length t_17)))
                  (
                  (g_mat_Result_0 N n za_0 zb_1 a_6 b_7 t_8 t_17 t_18 (wi64 (t_19 + (1 : Int)))))
                  (
                  none))
                (
                none)))
            (
            none))
          (
          none))
        (
        none))
      (
      cond (decide ((List.length (t_8).1) = (List.length (t_8).1)))
        (
        some (Sum.inl (za_0, (zb_1, (a_6, (b_7, (t_8, ())))))))
        (
        none))

def F_mat_Result (N : Nat) (za_0 : Int) (zb_1 : Int) (a_2 : (List Int × Bool)) (b_3 : (List Int × Bool)) : Option ((List Int × Bool) × (Er × Unit)) :=
  Option.bind (g_mat_Result_0 N N za_0 zb_1 (a_2, ()) (b_3, ()) (([] : List Int), (false, ())) (a_2 :: (b_3 :: ([] : List ((List Int) × Bool)))) (Nat.cast (2 : Nat) : Int) (0 : Int)) fun y0 =>
  Sum.elim (fun y1 =>
    cond (decide (@Ne Int (Nat.cast (List.length (((((y1).2).2).1).1).1) : Int) (2 : Int)))
      (
      some ((([] : List Int), false), ((Go.Eng.Er.s ErrShape), ())))
      (
      cond (decide (@Ne Int (Nat.cast (List.length ((((((y1).2).2).2).1).1).1) : Int) (2 : Int)))
        (
        some ((([] : List Int), false), ((Go.Eng.Er.s ErrShape), ())))
        (
        cond (decide (1 < (List.length (((((y1).2).2).1).1).1)))
          (
          cond (decide (0 < (List.length ((((((y1).2).2).2).1).1).1)))
            (
            cond (decide (@Ne Int (List.getD (((((y1).2).2).1).1).1 1 (0 : Int)) (List.getD ((((((y1).2).2).2).1).1).1 0 (0 : Int))))
              (
              some ((([] : List Int), false), ((Go.Eng.Er.s ErrShape), ())))
              (
              cond (((((y1).2).2).1).1).2
                (
                some ((([] : List Int), false), ((Go.Eng.Er.s ErrShape), ())))
                (
                cond ((((((y1).2).2).2).1).1).2
                  (
                  some ((([] : List Int), false), ((Go.Eng.Er.s ErrShape), ())))
                  (
                  Option.bind (F_mat_narrow N (y1).1) fun y2 =>
                  cond (Bool.not (y2).1)
                    (
                    some ((([] : List Int), false), ((Go.Eng.Er.s ErrRange), ())))
                    (
                    Option.bind (F_mat_narrow N ((y1).2).1) fun y3 =>
                    cond (Bool.not (y3).1)
                      (
                      some ((([] : List Int), false), ((Go.Eng.Er.s ErrRange), ())))
                      (
                      cond (decide (0 < (List.length (((((y1).2).2).1).1).1)))
                        (
                        cond (decide (1 < (List.length ((((((y1).2).2).2).1).1).1)))
                          (
                          Option.bind (F_shape_Valid N (((List.getD (((((y1).2).2).1).1).1 0 (0 : Int)) :: ((List.getD ((((((y1).2).2).2).1).1).1 1 (0 : Int)) :: ([] : List Int))), true)) fun y4 =>
                          cond (Bool.not (Go.Eng.Er.isNil (y4).1))
                            (
                            some ((([] : List Int), false), y4))
                            (
                            some ((((List.getD (((((y1).2).2).1).1).1 0 (0 : Int)) :: ((List.getD ((((((y1).2).2).2).1).1).1 1 (0 : Int)) :: ([] : List Int))), true), (Go.Eng.Er.nil, ()))))
                          (
                          none))
                        (
                        none)))))))
            (
            none))
          (
          none))))
    (fun y5 =>
    cond (decide (((0 : Nat) + (List.length ((y5).1).1)) ≤ (List.length ((y5).1).1)))
      (
      some (((List.take (List.length ((y5).1).1) ((y5).1).1), (((y5).1).2).1), (y5).2))
      (
      none)) y0

abbrev c_mat_Result (N : Nat) : CallSpec := ⟨92, ps_mat_Result, rs_mat_Result, fun x => F_mat_Result N x.1 x.2.1 x.2.2.1 x.2.2.2.1⟩
abbrev l_mat_Result_0 (N : Nat) : LoopSpec := ⟨0, h_mat_Result_0, e_mat_Result_0, fun x => g_mat_Result_0 N N x.1 x.2.1 x.2.2.1 x.2.2.2.1 x.2.2.2.2.1 x.2.2.2.2.2.1 x.2.2.2.2.2.2.1 x.2.2.2.2.2.2.2.1⟩

theorem cs_mat_Result_ok (S : Nat → Addr) (N : Nat) : CallsOK Go.Proofs.Tryd.prog E S (cs_mat_Result N) :=
  .cons (F_shape_Valid_ok S N) (.cons (F_mat_narrow_ok S N) (.nil))
noncomputable abbrev b_mat_Result_0 : Code := (loopsOf b_mat_Result).getD 0 .skip
theorem g_mat_Result_0_ok (S : Nat → Addr) (N : Nat) : ∀ n x y, (fun (x : Val (slotsTy h_mat_Result_0)) => g_mat_Result_0 N n x.1 x.2.1 x.2.2.1 x.2.2.2.1 x.2.2.2.2.1 x.2.2.2.2.2.1 x.2.2.2.2.2.2.1 x.2.2.2.2.2.2.2.1) x = some y → LoopCon Go.Proofs.Tryd.prog E S b_mat_Result_0 (encSlots h_mat_Result_0 x) (encEx e_mat_Result_0 y).1 (encEx e_mat_Result_0 y).2 :=
  loop_spec E_ok mixed (cs_mat_Result_ok S N) (all := loopsOf b_mat_Result) (ls := []) (.nil) (i := 0) (by kernel_rfl) (inner_of (by kernel_rfl)) (head := h_mat_Result_0) (ex := e_mat_Result_0) (fun n (x : Val (slotsTy h_mat_Result_0)) => g_mat_Result_0 N n x.1 x.2.1 x.2.2.1 x.2.2.2.1 x.2.2.2.2.1 x.2.2.2.2.2.1 x.2.2.2.2.2.2.1 x.2.2.2.2.2.2.2.1) (fun _ => rfl) (fun n x => by kernel_rfl)
theorem F_mat_Result_ok (S : Nat → Addr) (N : Nat) : ∀ x y, (c_mat_Result N).g x = some y → FCon Go.Proofs.Tryd.prog E S 92 ps_mat_Result rs_mat_Result x y := by
  intro x y h
  exact fun_spec E_ok mixed (cs_mat_Result_ok S N) (f := 92) (fi := ⟨b_mat_Result, 88, Go.Proofs.Tryd.f92.results.toList⟩) (by kernel_rfl) (ls := [l_mat_Result_0 N]) (.cons (by kernel_rfl) (g_mat_Result_0_ok S N N) (.nil)) (by kernel_rfl) (ps := ps_mat_Result) (rs := rs_mat_Result) (Eq.trans (b := F_mat_Result N x.1 x.2.1 x.2.2.1 x.2.2.2.1) (by kernel_rfl) h)

/-! lodge/mat.result -/

abbrev ps_mat_result : List Ty := [(.st (.pair (.st (.pair (.sl (.int .i64)) .bool)) (.sl (.int .i64)))), (.st (.pair (.st (.pair (.sl (.int .i64)) .bool)) (.sl (.int .i64)))), (.int .i64), (.int .i64)]
abbrev rs_mat_result : List Slot := [.data (.st (.pair (.sl (.int .i64)) .bool)), .data .err]
abbrev cs_mat_result (N : Nat) : List CallSpec := [c_tens_Valid N, c_mat_Result N]
noncomputable abbrev b_mat_result : Code := (Go.Proofs.Tryd.f57.body).getD .skip

abbrev h_mat_result_0 : List Slot := [.dead, .dead, .data (.int .i64), .data (.int .i64), .box [.d (.st (.pair (.st (.pair (.sl (.int .i64)) .bool)) (.sl (.int .i64))))], .box [.d (.st (.pair (.st (.pair (.sl (.int .i64)) .bool)) (.sl (.int .i64))))], .dead, .dead, .box [.sl (.int .i64), .d .bool], .dead, .dead, .dead, .dead, .dead, .dead, .sl (.st (.pair (.st (.pair (.sl (.int .i64)) .bool)) (.sl (.int .i64)))), .data (.int .i64), .data (.int .i64), .dead, .dead, .dead, .dead, .dead, .dead, .dead, .dead, .dead, .dead, .dead, .dead, .dead, .dead, .dead, .dead, .dead, .dead, .dead]
abbrev e_mat_result_0 : List (AX × List Slot) := [(AX.exit 0, [.dead, .dead, .data (.int .i64), .data (.int .i64), .box [.d (.st (.pair (.st (.pair (.sl (.int .i64)) .bool)) (.sl (.int .i64))))], .box [.d (.st (.pair (.st (.pair (.sl (.int .i64)) .bool)) (.sl (.int .i64))))], .dead, .dead, .box [.sl (.int .i64), .d .bool], .dead, .dead, .dead, .dead, .dead, .dead, .dead, .dead, .dead, .dead, .dead, .dead, .dead, .dead, .dead, .dead, .dead, .dead, .dead, .dead, .dead, .dead, .dead, .dead, .dead, .dead, .dead, .dead]), (AX.ret, [.dead, .dead, .dead, .dead, .dead, .dead, .dead, .dead, .box [.sl (.int .i64), .d .bool], .data .err, .dead, .dead, .dead, .dead, .dead, .dead, .dead, .dead, .dead, .dead, .dead, .dead, .dead, .dead, .dead, .dead, .dead, .dead, .dead, .dead, .dead, .dead, .dead, .dead, .dead, .dead, .dead])]
def g_mat_result_0 (N : Nat) : Nat → Int → Int → (((List Int × Bool) × List Int) × Unit) → (((List Int × Bool) × List Int) × Unit) → (List Int × (Bool × Unit)) → List (((List Int × Bool) × List Int)) → Int → Int → Option (Sum (Int × (Int × ((((List Int × Bool) × List Int) × Unit) × ((((List Int × Bool) × List Int) × Unit) × ((List Int × (Bool × Unit)) × Unit))))) ((List Int × (Bool × Unit)) × (Er × Unit)))
  | 0, _, _, _, _, _, _, _, _ => none
  | n + 1, za_2, zb_3, a_4, b_5, t_8, t_15, t_16, t_17 =>
    cond (decide (t_17 < t_16))
      (
      cond (decide ((0 : Int) ≤ t_17))
        (
        cond (decide ((Int.toNat t_17) < (List.length t_15)))
          (
          cond (decide (((0 : Nat) + (Int.toNat t_17)) < (List.length t_15)))
            (
            Option.bind (F_tens_Valid N (List.getD t_15 ((0 : Nat) + (Int.toNat t_17)) ((([] : List Int), false), ([] : List Int)))) fun y1 =>
            cond (Bool.not (Go.Eng.Er.isNil (y1).1))
              (
              some (Sum.inr ((([] : List Int), (false, ())), y1)))
              (
              cond (decide ((List.length (t_8).1) = (List.length (t_8).1)))
                (
                cond (decide ((List.length t_15) = (List.length t_15)))
                  (
                  (g_mat_result_0 N n za_2 zb_3 a_4 b_5 t_8 t_15 t_16 (wi64 (t_17 + (1 : Int)))))
                  (
                  none))
                (
                none)))
            (
            none))
          (
          none))
        (
        none))
      (
      cond (decide ((List.length (t_8).1) = (List.length (t_8).1)))
        (
        some (Sum.inl (za_2, (zb_3, (a_4, (b_5, (t_8, ())))))))
        (
        none))

def F_mat_result (N : Nat) (a_0 : ((List Int × Bool) × List Int)) (b_1 : ((List Int × Bool) × List Int)) (za_2 : Int) (zb_3 : Int) : Option ((List Int × Bool) × (Er × Unit)) :=
  Option.bind (g_mat_result_0 N N za_2 zb_3 (a_0, ()) (b_1, ()) (([] : List Int), (false, ())) (a_0 :: (b_1 :: ([] : List (((List Int) × Bool) × (List Int))))) (Nat.cast (2 : Nat) : Int) (0 : Int)) fun y0 =>
  Sum.elim (fun y1 =>
    Option.bind (F_mat_Result N (y1).1 ((y1).2).1 (((((y1).2).2).1).1).1 ((((((y1).2).2).2).1).1).1) fun y2 =>
    some y2)
    (fun y3 =>
    cond (decide (((0 : Nat) + (List.length ((y3).1).1)) ≤ (List.length ((y3).1).1)))
      (
      some (((List.take (List.length ((y3).1).1) ((y3).1).1), (((y3).1).2).1), (y3).2))
      (
      none)) y0

abbrev c_mat_result (N : Nat) : CallSpec := ⟨57, ps_mat_result, rs_mat_result, fun x => F_mat_result N x.1 x.2.1 x.2.2.1 x.2.2.2.1⟩
abbrev l_mat_result_0 (N : Nat) : LoopSpec := ⟨0, h_mat_result_0, e_mat_result_0, fun x => g_mat_result_0 N N x.1 x.2.1 x.2.2.1 x.2.2.2.1 x.2.2.2.2.1 x.2.2.2.2.2.1 x.2.2.2.2.2.2.1 x.2.2.2.2.2.2.2.1⟩

theorem cs_mat_result_ok (S : Nat → Addr) (N : Nat) : CallsOK Go.Proofs.Tryd.prog E S (cs_mat_result N) :=
  .cons (F_tens_Valid_ok S N) (.cons (F_mat_Result_ok S N) (.nil))
noncomputable abbrev b_mat_result_0 : Code := (loopsOf b_mat_result).getD 0 .skip
theorem g_mat_result_0_ok (S : Nat → Addr) (N : Nat) : ∀ n x y, (fun (x : Val (slotsTy h_mat_result_0)) => g_mat_result_0 N n x.1 x.2.1 x.2.2.1 x.2.2.2.1 x.2.2.2.2.1 x.2.2.2.2.2.1 x.2.2.2.2.2.2.1 x.2.2.2.2.2.2.2.1) x = some y → LoopCon Go.Proofs.Tryd.prog E S b_mat_result_0 (encSlots h_mat_result_0 x) (encEx e_mat_result_0 y).1 (encEx e_mat_result_0 y).2 :=
  loop_spec E_ok mixed (cs_mat_result_ok S N) (all := loopsOf b_mat_result) (ls := []) (.nil) (i := 0) (by kernel_rfl) (inner_of (by kernel_rfl)) (head := h_mat_result_0) (ex := e_mat_result_0) (fun n (x : Val (slotsTy h_mat_result_0)) => g_mat_result_0 N n x.1 x.2.1 x.2.2.1 x.2.2.2.1 x.2.2.2.2.1 x.2.2.2.2.2.1 x.2.2.2.2.2.2.1 x.2.2.2.2.2.2.2.1) (fun _ => rfl) (fun n x => by kernel_rfl)
theorem F_mat_result_ok (S : Nat → Addr) (N : Nat) : ∀ x y, (c_mat_result N).g x = some y → FCon Go.Proofs.Tryd.prog E S 57 ps_mat_result rs_mat_result x y := by
  intro x y h
  exact fun_spec E_ok mixed (cs_mat_result_ok S N) (f := 57) (fi := ⟨b_mat_result, 37, Go.Proofs.Tryd.f57.results.toList⟩) (by kernel_rfl) (ls := [l_mat_result_0 N]) (.cons (by kernel_rfl) (g_mat_result_0_ok S N N) (.nil)) (by kernel_rfl) (ps := ps_mat_result) (rs := rs_mat_result) (Eq.trans (b := F_mat_result N x.1 x.2.1 x.2.2.1 x.2.2.2.1) (by kernel_rfl) h)

/-! lodge/mat.Mul -/

abbrev ps_mat_Mul : List Ty := [(.st (.pair (.st (.pair (.sl (.int .i64)) .bool)) (.sl (.int .i64)))), (.st (.pair (.st (.pair (.sl (.int .i64)) .bool)) (.sl (.int .i64)))), (.int .i64), (.int .i64)]
abbrev rs_mat_Mul : List Slot := [.ag [.d (.sl (.int .i64)), .d .bool, .sl (.int .i64)], .data .err]
abbrev cs_mat_Mul (N : Nat) : List CallSpec := [c_tens_Wide N, c_mat_result N]
noncomputable abbrev b_mat_Mul : Code := (Go.Proofs.Tryd.f28.body).getD .skip

abbrev h_mat_Mul_2 : List Slot := [.dead, .dead, .data (.int .i64), .data (.int .i64), .box [.d (.st (.pair (.st (.pair (.sl (.int .i64)) .bool)) (.sl (.int .i64))))], .box [.d (.st (.pair (.st (.pair (.sl (.int .i64)) .bool)) (.sl (.int .i64))))], .dead, .dead, .box [.sl (.int .i64), .d .bool, .sl (.int .i64)], .dead, .dead, .dead, .data (.int .i64), .data (.int .i64), .data (.int .i64), .box [.d (.sl (.int .i64)), .d .bool, .sl (.int .i64)], .data (.int .i64), .data (.int .i64), .data (.int .i64), .dead, .dead, .dead, .dead, .dead, .dead, .dead, .dead, .dead, .dead, .dead, .dead, .dead, .dead, .dead, .dead, .dead, .dead, .dead, .dead, .dead, .dead, .dead, .dead, .dead, .dead, .dead, .dead, .dead, .dead, .dead, .dead, .dead, .dead, .dead, .dead, .dead, .dead, .dead, .dead, .dead, .dead, .dead, .dead, .data (.int .i64), .data (.int .i64), .dead, .dead, .dead, .dead, .dead, .dead, .dead, .dead, .dead, .dead, .dead, .dead, .dead, .dead, .dead, .dead, .dead, .dead, .dead, .dead, .dead, .dead, .dead, .dead, .dead, .dead, .dead, .dead, .dead, .dead, .dead, .dead, .dead, .dead, .dead, .dead, .dead, .dead, .dead]
abbrev e_mat_Mul_2 : List (AX × List Slot) := [(AX.exit 4, [.dead, .dead, .data (.int .i64), .data (.int .i64), .box [.d (.st (.pair (.st (.pair (.sl (.int .i64)) .bool)) (.sl (.int .i64))))], .box [.d (.st (.pair (.st (.pair (.sl (.int .i64)) .bool)) (.sl (.int .i64))))], .dead, .dead, .box [.sl (.int .i64), .d .bool, .sl (.int .i64)], .dead, .dead, .dead, .data (.int .i64), .data (.int .i64), .data (.int .i64), .box [.d (.sl (.int .i64)), .d .bool, .sl (.int .i64)], .data (.int .i64), .data (.int .i64), .data (.int .i64), .dead, .dead, .dead, .dead, .dead, .dead, .dead, .dead, .dead, .dead, .dead, .dead, .dead, .dead, .dead, .dead, .dead, .dead, .dead, .dead, .dead, .dead, .dead, .dead, .dead, .dead, .dead, .dead, .dead, .dead, .dead, .dead, .dead, .dead, .dead, .dead, .dead, .dead, .dead, .dead, .dead, .dead, .dead, .dead, .dead, .dead, .dead, .dead, .dead, .dead, .dead, .dead, .dead, .dead, .dead, .dead, .dead, .dead, .dead, .dead, .dead, .dead, .dead, .dead, .dead, .dead, .dead, .dead, .dead, .dead, .dead, .dead, .dead, .dead, .dead, .dead, .dead, .dead, .dead, .dead, .dead, .dead, .dead, .dead, .dead])]
def g_mat_Mul_2 (N : Nat) : Nat → Int → Int → (((List Int × Bool) × List Int) × Unit) → (((List Int × Bool) × List Int) × Unit) → (List Int × (Bool × (List Int × Unit))) → Int → Int → Int → (List Int × (Bool × (List Int × Unit))) → Int → Int → Int → Int → Int → Option (Int × (Int × ((((List Int × Bool) × List Int) × Unit) × ((((List Int × Bool) × List Int) × Unit) × ((List Int × (Bool × (List Int × Unit))) × (Int × (Int × (Int × ((List Int × (Bool × (List Int × Unit))) × (Int × (Int × (Int × Unit))))))))))))
  | 0, _, _, _, _, _, _, _, _, _, _, _, _, _, _ => none
  | n + 1, za_2, zb_3, a_4, b_5, t_8, m_12, k_13, n_14, out_15, i_16, j_17, s_18, t_63, t_64 =>
    cond (decide (t_64 < t_63))
      (
      cond (decide ((0 : Int) ≤ (wi64 ((wi64 (i_16 * k_13)) + t_64))))
        (
        cond (decide ((Int.toNat (wi64 ((wi64 (i_16 * k_13)) + t_64))) < (List.length ((a_4).1).2)))
          (
          cond (decide ((0 : Int) ≤ (wi64 ((wi64 (t_64 * n_14)) + j_17))))
            (
            cond (decide ((Int.toNat (wi64 ((wi64 (t_64 * n_14)) + j_17))) < (List.length ((b_5).1).2)))
              (
              cond (decide ((List.length (t_8).1) = (List.length (t_8).1)))
                (
                cond (decide ((List.length (((t_8).2).2).1) = (List.length (((t_8).2).2).1)))
                  (
                  cond (decide ((List.length (((out_15).2).2).1) = (List.length (((out_15).2).2).1)))
                    (
                    (g_mat_Mul_2 N n za_2 zb_3 a_4 b_5 t_8 m_12 k_13 n_14 out_15 i_16 j_17 (wi64 (s_18 + (wi64 ((wi64 ((List.getD ((a_4).1).2 (Int.toNat (wi64 ((wi64 (i_16 * k_13)) + t_64))) (0 : Int)) - za_2)) * (wi64 ((List.getD ((b_5).1).2 (Int.toNat (wi64 ((wi64 (t_64 * n_14)) + j_17))) (0 : Int)) - zb_3)))))) t_63 (wi64 (t_64 + (1 : Int)))))
                    (
                    none))
                  (
                  none))
                (
                none))
              (
              none))
            (
            none))
          (
          none))
        (
        none))
      (
      cond (decide ((List.length (t_8).1) = (List.length (t_8).1)))
        (
        cond (decide ((List.length (((t_8).2).2).1) = (List.length (((t_8).2).2).1)))
          (
          cond (decide ((List.length (((out_15).2).2).1) = (List.length (((out_15).2).2).1)))
            (
            some (za_2, (zb_3, (a_4, (b_5, (t_8, (m_12, (k_13, (n_14, (out_15, (i_16, (j_17, (s_18, ())))))))))))))
            (
            none))
          (
          none))
        (
        none))

abbrev h_mat_Mul_1 : List Slot := [.dead, .dead, .data (.int .i64), .data (.int .i64), .box [.d (.st (.pair (.st (.pair (.sl (.int .i64)) .bool)) (.sl (.int .i64))))], .box [.d (.st (.pair (.st (.pair (.sl (.int .i64)) .bool)) (.sl (.int .i64))))], .dead, .dead, .box [.sl (.int .i64), .d .bool, .sl (.int .i64)], .dead, .dead, .dead, .data (.int .i64), .data (.int .i64), .data (.int .i64), .box [.d (.sl (.int .i64)), .d .bool, .sl (.int .i64)], .data (.int .i64), .data (.int .i64), .dead, .dead, .dead, .dead, .dead, .dead, .dead, .dead, .dead, .dead, .dead, .dead, .dead, .dead, .dead, .dead, .dead, .dead, .dead, .dead, .dead, .dead, .dead, .dead, .dead, .dead, .dead, .dead, .dead, .dead, .dead, .dead, .dead, .dead, .dead, .dead, .dead, .dead, .dead, .dead, .dead, .dead, .dead, .dead, .dead, .dead, .dead, .dead, .dead, .dead, .dead, .dead, .dead, .dead, .dead, .dead, .dead, .dead, .dead, .dead, .dead, .dead, .dead, .dead, .dead, .dead, .dead, .dead, .dead, .dead, .dead, .dead, .dead, .dead, .dead, .dead, .dead, .dead, .dead, .dead, .dead, .dead, .dead, .dead, .dead, .dead]
abbrev e_mat_Mul_1 : List (AX × List Slot) := [(AX.exit 0, [.dead, .dead, .dead, .dead, .dead, .dead, .dead, .dead, .box [.sl (.int .i64), .d .bool, .sl (.int .i64)], .dead, .dead, .dead, .dead, .dead, .dead, .box [.d (.sl (.int .i64)), .d .bool, .sl (.int .i64)], .dead, .dead, .dead, .dead, .dead, .dead, .dead, .dead, .dead, .dead, .dead, .dead, .dead, .dead, .dead, .dead, .dead, .dead, .dead, .dead, .dead, .dead, .dead, .dead, .dead, .dead, .dead, .dead, .dead, .dead, .dead, .dead, .dead, .dead, .dead, .dead, .dead, .dead, .dead, .dead, .dead, .dead, .dead, .dead, .dead, .dead, .dead, .dead, .dead, .dead, .dead, .dead, .dead, .dead, .dead, .dead, .dead, .dead, .dead, .dead, .dead, .dead, .dead, .dead, .dead, .dead, .dead, .dead, .dead, .dead, .dead, .dead, .dead, .dead, .dead, .dead, .dead, .dead, .dead, .dead, .dead, .dead, .dead, .dead, .dead, .dead, .dead, .dead]), (AX.exit 1, [.dead, .dead, .data (.int .i64), .data (.int .i64), .box [.d (.st (.pair (.st (.pair (.sl (.int .i64)) .bool)) (.sl (.int .i64))))], .box [.d (.st (.pair (.st (.pair (.sl (.int .i64)) .bool)) (.sl (.int .i64))))], .dead, .dead, .box [.sl (.int .i64), .d .bool, .sl (.int .i64)], .dead, .dead, .dead, .data (.int .i64), .data (.int .i64), .data (.int .i64), .box [.d (.sl (.int .i64)), .d .bool, .sl (.int .i64)], .data (.int .i64), .dead, .dead, .dead, .dead, .dead, .dead, .dead, .dead, .dead, .dead, .dead, .dead, .dead, .dead, .dead, .dead, .dead, .dead, .dead, .dead, .dead, .dead, .dead, .dead, .dead, .dead, .dead, .dead, .dead, .dead, .dead, .dead, .dead, .dead, .dead, .dead, .dead, .dead, .dead, .dead, .dead, .dead, .dead, .dead, .dead, .dead, .dead, .dead, .dead, .dead, .dead, .dead, .dead, .dead, .dead, .dead, .dead, .dead, .dead, .dead, .dead, .dead, .dead, .dead, .dead, .dead, .dead, .dead, .dead, .dead, .dead, .dead, .dead, .dead, .dead, .dead, .dead, .dead, .dead, .dead, .dead, .dead, .dead, .dead, .dead, .dead, .dead])]
def g_mat_Mul_1 (N : Nat) : Nat → Int → Int → (((List Int × Bool) × List Int) × Unit) → (((List Int × Bool) × List Int) × Unit) → (List Int × (Bool × (List Int × Unit))) → Int → Int → Int → (List Int × (Bool × (List Int × Unit))) → Int → Int → Option (Sum ((List Int × (Bool × (List Int × Unit))) × ((List Int × (Bool × (List Int × Unit))) × Unit)) (Int × (Int × ((((List Int × Bool) × List Int) × Unit) × ((((List Int × Bool) × List Int) × Unit) × ((List Int × (Bool × (List Int × Unit))) × (Int × (Int × (Int × ((List Int × (Bool × (List Int × Unit))) × (Int × Unit)))))))))))
  | 0, _, _, _, _, _, _, _, _, _, _, _ => none
  | n + 1, za_2, zb_3, a_4, b_5, t_8, m_12, k_13, n_14, out_15, i_16, j_17 =>
    cond (decide (j_17 = n_14))
      (
      cond (decide ((List.length (t_8).1) = (List.length (t_8).1)))
        (
        cond (decide ((List.length (((t_8).2).2).1) = (List.length (((t_8).2).2).1)))
          (
          cond (decide ((List.length (((out_15).2).2).1) = (List.length (((out_15).2).2).1)))
            (
            some (Sum.inr (za_2, (zb_3, (a_4, (b_5, (t_8, (m_12, (k_13, (n_14, (out_15, (i_16, ()))))))))))))
            (
            none))
          (
          none))
        (
        none))
      (
      cond (decide (i_16 = m_12))
        (
        cond (decide ((List.length (t_8).1) = (List.length (t_8).1)))
          (
          cond (decide ((List.length (((t_8).2).2).1) = (List.length (((t_8).2).2).1)))
            (
            cond (decide ((List.length (((out_15).2).2).1) = (List.length (((out_15).2).2).1)))
              (
              some (Sum.inl (t_8, (out_15, ()))))
              (
              none))
            (
            none))
          (
          none))
        (
        cond (decide ((List.length (t_8).1) = (List.length (t_8).1)))
          (
          cond (decide ((List.length (((t_8).2).2).1) = (List.length (((t_8).2).2).1)))
            (
            cond (decide ((List.length (((out_15).2).2).1) = (List.length (((out_15).2).2).1)))
              (
              Option.bind (g_mat_Mul_2 N N za_2 zb_3 a_4 b_5 t_8 m_12 k_13 n_14 out_15 i_16 j_17 (0 : Int) k_13 (0 : Int)) fun y3 =>
              Option.bind (F_tens_Wide N ((((((((((((y3).2).2).2).2).2).2).2).2).2).2).2).1) fun y4 =>
              cond (decide ((0 : Int) ≤ (wi64 ((wi64 (((((((((((y3).2).2).2).2).2).2).2).2).2).1 * ((((((((y3).2).2).2).2).2).2).2).1)) + (((((((((((y3).2).2).2).2).2).2).2).2).2).2).1))))
                (
                cond (decide ((Int.toNat (wi64 ((wi64 (((((((((((y3).2).2).2).2).2).2).2).2).2).1 * ((((((((y3).2).2).2).2).2).2).2).1)) + (((((((((((y3).2).2).2).2).2).2).2).2).2).2).1))) < (List.length ((((((((((((y3).2).2).2).2).2).2).2).2).1).2).2).1)))
                  (
                  cond (decide (((0 : Nat) + (Int.toNat (wi64 ((wi64 (((((((((((y3).2).2).2).2).2).2).2).2).2).1 * ((((((((y3).2).2).2).2).2).2).2).1)) + (((((((((((y3).2).2).2).2).2).2).2).2).2).2).1)))) < (List.length ((((((((((((y3).2).2).2).2).2).2).2).2).1).2).2).1)))
                    (
                    cond (decide ((List.length ((((((y3).2).2).2).2).1).1) = (List.length ((((((y3).2).2).2).2).1).1)))
                      (
                      cond (decide ((List.length ((((((((y3).2).2).2).2).1).2).2).1) = (List.length ((((((((y3).2).2).2).2).1).2).2).1)))
                        (
                        cond (decide ((List.length ((((((((((((y3).2).2).2).2).2).2).2).2).1).2).2).1) = (List.length (List.set ((((((((((((y3).2).2).2).2).2).2).2).2).1).2).2).1 ((0 : Nat) + (Int.toNat (wi64 ((wi64 (((((((((((y3).2).2).2).2).2).2).2).2).2).1 * ((((((((y3).2).2).2).2).2).2).2).1)) + (((((((((((y3).2).2).2).2).2).2).2).2).2).2).1)))) (y4).1))))
                          (
                          (g_mat_Mul_1 N n (y3).1 ((y3).2).1 (((y3).2).2).1 ((((y3).2).2).2).1 (((((y3).2).2).2).2).1 ((((((y3).2).2).2).2).2).1 (((((((y3).2).2).2).2).2).2).1 ((((((((y3).2).2).2).2).2).2).2).1 (((((((((((y3).2).2).2).2).2).2).2).2).1).1, ((((((((((((y3).2).2).2).2).2).2).2).2).1).2).1, ((List.set ((((((((((((y3).2).2).2).2).2).2).2).2).1).2).2).1 ((0 : Nat) + (Int.toNat (wi64 ((wi64 (((((((((((y3).2).2).2).2).2).2).2).2).2).1 * ((((((((y3).2).2).2).2).2).2).2).1)) + (((((((((((y3).2).2).2).2).2).2).2).2).2).2).1)))) (y4).1), ()))) ((((((((((y3).2).2).2).2).2).2).2).2).2).1 (wi64 ((((((((((((y3).2).2).2).2).2).2).2).2).2).2).1 + (1 : Int)))))
                          (
                          none))
                        (
                        none))
                      (
                      none))
                    (
                    none))
                  (
                  none))
                (
                none))
              (
              none))
            (
            none))
          (
          none)))

abbrev h_mat_Mul_0 : List Slot := [.dead, .dead, .data (.int .i64), .data (.int .i64), .box [.d (.st (.pair (.st (.pair (.sl (.int .i64)) .bool)) (.sl (.int .i64))))], .box [.d (.st (.pair (.st (.pair (.sl (.int .i64)) .bool)) (.sl (.int .i64))))], .dead, .dead, .box [.sl (.int .i64), .d .bool, .sl (.int .i64)], .dead, .dead, .dead, .data (.int .i64), .data (.int .i64), .data (.int .i64), .box [.d (.sl (.int .i64)), .d .bool, .sl (.int .i64)], .data (.int .i64), .dead, .dead, .dead, .dead, .dead, .dead, .dead, .dead, .dead, .dead, .dead, .dead, .dead, .dead, .dead, .dead, .dead, .dead, .dead, .dead, .dead, .dead, .dead, .dead, .dead, .dead, .dead, .dead, .dead, .dead, .dead, .dead, .dead, .dead, .dead, .dead, .dead, .dead, .dead, .dead, .dead, .dead, .dead, .dead, .dead, .dead, .dead, .dead, .dead, .dead, .dead, .dead, .dead, .dead, .dead, .dead, .dead, .dead, .dead, .dead, .dead, .dead, .dead, .dead, .dead, .dead, .dead, .dead, .dead, .dead, .dead, .dead, .dead, .dead, .dead, .dead, .dead, .dead, .dead, .dead, .dead, .dead, .dead, .dead, .dead, .dead, .dead]
abbrev e_mat_Mul_0 : List (AX × List Slot) := [(AX.exit 0, [.dead, .dead, .dead, .dead, .dead, .dead, .dead, .dead, .box [.sl (.int .i64), .d .bool, .sl (.int .i64)], .dead, .dead, .dead, .dead, .dead, .dead, .box [.d (.sl (.int .i64)), .d .bool, .sl (.int .i64)], .dead, .dead, .dead, .dead, .dead, .dead, .dead, .dead, .dead, .dead, .dead, .dead, .dead, .dead, .dead, .dead, .dead, .dead, .dead, .dead, .dead, .dead, .dead, .dead, .dead, .dead, .dead, .dead, .dead, .dead, .dead, .dead, .dead, .dead, .dead, .dead, .dead, .dead, .dead, .dead, .dead, .dead, .dead, .dead, .dead, .dead, .dead, .dead, .dead, .dead, .dead, .dead, .dead, .dead, .dead, .dead, .dead, .dead, .dead, .dead, .dead, .dead, .dead, .dead, .dead, .dead, .dead, .dead, .dead, .dead, .dead, .dead, .dead, .dead, .dead, .dead, .dead, .dead, .dead, .dead, .dead, .dead, .dead, .dead, .dead, .dead, .dead, .dead])]
def g_mat_Mul_0 (N : Nat) : Nat → Int → Int → (((List Int × Bool) × List Int) × Unit) → (((List Int × Bool) × List Int) × Unit) → (List Int × (Bool × (List Int × Unit))) → Int → Int → Int → (List Int × (Bool × (List Int × Unit))) → Int → Option ((List Int × (Bool × (List Int × Unit))) × ((List Int × (Bool × (List Int × Unit))) × Unit))
  | 0, _, _, _, _, _, _, _, _, _, _ => none
  | n + 1, za_2, zb_3, a_4, b_5, t_8, m_12, k_13, n_14, out_15, i_16 =>
    cond (decide ((List.length (t_8).1) = (List.length (t_8).1)))
      (
      cond (decide ((List.length (((t_8).2).2).1) = (List.length (((t_8).2).2).1)))
        (
        cond (decide ((List.length (((out_15).2).2).1) = (List.length (((out_15).2).2).1)))
          (
          Option.bind (g_mat_Mul_1 N N za_2 zb_3 a_4 b_5 t_8 m_12 k_13 n_14 out_15 i_16 (0 : Int)) fun y8 =>
          Sum.elim (fun y9 =>
            cond (decide ((List.length ((y9).1).1) = (List.length ((y9).1).1)))
              (
              cond (decide ((List.length ((((y9).1).2).2).1) = (List.length ((((y9).1).2).2).1)))
                (
                cond (decide ((List.length (((((y9).2).1).2).2).1) = (List.length (((((y9).2).1).2).2).1)))
                  (
                  some y9)
                  (
                  none))
                (
                none))
              (
              none))
            (fun y10 =>
            cond (decide ((List.length ((((((y10).2).2).2).2).1).1) = (List.length ((((((y10).2).2).2).2).1).1)))
              (
              cond (decide ((List.length ((((((((y10).2).2).2).2).1).2).2).1) = (List.length ((((((((y10).2).2).2).2).1).2).2).1)))
                (
                cond (decide ((List.length ((((((((((((y10).2).2).2).2).2).2).2).2).1).2).2).1) = (List.length ((((((((((((y10).2).2).2).2).2).2).2).2).1).2).2).1)))
                  (
                  (g_mat_Mul_0 N n (y10).1 ((y10).2).1 (((y10).2).2).1 ((((y10).2).2).2).1 (((((y10).2).2).2).2).1 ((((((y10).2).2).2).2).2).1 (((((((y10).2).2).2).2).2).2).1 ((((((((y10).2).2).2).2).2).2).2).1 (((((((((y10).2).2).2).2).2).2).2).2).1 (wi64 (((((((((((y10).2).2).2).2).2).2).2).2).2).1 + (1 : Int)))))
                  (
                  none))
                (
                none))
              (
              none)) y8)
          (
          none))
        (
        none))
      (
      none)

def F_mat_Mul (N : Nat) (a_0 : ((List Int × Bool) × List Int)) (b_1 : ((List Int × Bool) × List Int)) (za_2 : Int) (zb_3 : Int) : Option ((List Int × (Bool × (List Int × Unit))) × (Er × Unit)) :=
  Option.bind (F_mat_result N a_0 b_1 za_2 zb_3) fun y0 =>
  cond (Bool.not (Go.Eng.Er.isNil ((y0).2).1))
    (
    some ((([] : List Int), (false, (([] : List Int), ()))), (y0).2))
    (
    cond (decide (0 < (List.length ((a_0).1).1)))
      (
      cond (decide (1 < (List.length ((a_0).1).1)))
        (
        cond (decide (1 < (List.length ((b_1).1).1)))
          (
          cond (decide ((0 : Int) ≤ (wi64 ((List.getD ((a_0).1).1 0 (0 : Int)) * (List.getD ((b_1).1).1 1 (0 : Int))))))
            (
            cond (decide ((wi64 ((List.getD ((a_0).1).1 0 (0 : Int)) * (List.getD ((b_1).1).1 1 (0 : Int)))) ≤ (wi64 ((List.getD ((a_0).1).1 0 (0 : Int)) * (List.getD ((b_1).1).1 1 (0 : Int))))))
              (
              cond (decide (((wi64 ((List.getD ((a_0).1).1 0 (0 : Int)) * (List.getD ((b_1).1).1 1 (0 : Int)))) * ((Nat.cast 8 : Int) + (1 : Int))) ≤ (Nat.cast Go.Eng.most : Int)))
                (
                cond (decide ((Int.toNat (wi64 ((List.getD ((a_0).1).1 0 (0 : Int)) * (List.getD ((b_1).1).1 1 (0 : Int))))) = (List.length (List.replicate (Int.toNat (wi64 ((List.getD ((a_0).1).1 0 (0 : Int)) * (List.getD ((b_1).1).1 1 (0 : Int))))) (0 : Int)))))
                  (
                  Option.bind (g_mat_Mul_0 N N za_2 zb_3 (a_0, ()) (b_1, ()) (([] : List Int), (false, (([] : List Int), ()))) (List.getD ((a_0).1).1 0 (0 : Int)) (List.getD ((a_0).1).1 1 (0 : Int)) (List.getD ((b_1).1).1 1 (0 : Int)) (((y0).1).1, (((y0).1).2, ((List.replicate (Int.toNat (wi64 ((List.getD ((a_0).1).1 0 (0 : Int)) * (List.getD ((b_1).1).1 1 (0 : Int))))) (0 : Int)), ()))) (0 : Int)) fun y1 =>
                  cond (decide ((List.length (((((y1).2).1).2).2).1) = (List.length (((((y1).2).1).2).2).1)))
                    (
                    some (((y1).2).1, (Go.Eng.Er.nil, ())))
                    (
                    none))
                  (
                  none))
                (
                none))
              (
              none))
            (
            none))
          (
          none))
        (
        none))
      (
      none))

abbrev c_mat_Mul (N : Nat) : CallSpec := ⟨28, ps_mat_Mul, rs_mat_Mul, fun x => F_mat_Mul N x.1 x.2.1 x.2.2.1 x.2.2.2.1⟩
abbrev l_mat_Mul_2 (N : Nat) : LoopSpec := ⟨2, h_mat_Mul_2, e_mat_Mul_2, fun x => g_mat_Mul_2 N N x.1 x.2.1 x.2.2.1 x.2.2.2.1 x.2.2.2.2.1 x.2.2.2.2.2.1 x.2.2.2.2.2.2.1 x.2.2.2.2.2.2.2.1 x.2.2.2.2.2.2.2.2.1 x.2.2.2.2.2.2.2.2.2.1 x.2.2.2.2.2.2.2.2.2.2.1 x.2.2.2.2.2.2.2.2.2.2.2.1 x.2.2.2.2.2.2.2.2.2.2.2.2.1 x.2.2.2.2.2.2.2.2.2.2.2.2.2.1⟩
abbrev l_mat_Mul_1 (N : Nat) : LoopSpec := ⟨1, h_mat_Mul_1, e_mat_Mul_1, fun x => g_mat_Mul_1 N N x.1 x.2.1 x.2.2.1 x.2.2.2.1 x.2.2.2.2.1 x.2.2.2.2.2.1 x.2.2.2.2.2.2.1 x.2.2.2.2.2.2.2.1 x.2.2.2.2.2.2.2.2.1 x.2.2.2.2.2.2.2.2.2.1 x.2.2.2.2.2.2.2.2.2.2.1⟩
abbrev l_mat_Mul_0 (N : Nat) : LoopSpec := ⟨0, h_mat_Mul_0, e_mat_Mul_0, fun x => g_mat_Mul_0 N N x.1 x.2.1 x.2.2.1 x.2.2.2.1 x.2.2.2.2.1 x.2.2.2.2.2.1 x.2.2.2.2.2.2.1 x.2.2.2.2.2.2.2.1 x.2.2.2.2.2.2.2.2.1 x.2.2.2.2.2.2.2.2.2.1⟩

theorem cs_mat_Mul_ok (S : Nat → Addr) (N : Nat) : CallsOK Go.Proofs.Tryd.prog E S (cs_mat_Mul N) :=
  .cons (F_tens_Wide_ok S N) (.cons (F_mat_result_ok S N) (.nil))
noncomputable abbrev b_mat_Mul_2 : Code := (loopsOf b_mat_Mul).getD 2 .skip
theorem g_mat_Mul_2_ok (S : Nat → Addr) (N : Nat) : ∀ n x y, (fun (x : Val (slotsTy h_mat_Mul_2)) => g_mat_Mul_2 N n x.1 x.2.1 x.2.2.1 x.2.2.2.1 x.2.2.2.2.1 x.2.2.2.2.2.1 x.2.2.2.2.2.2.1 x.2.2.2.2.2.2.2.1 x.2.2.2.2.2.2.2.2.1 x.2.2.2.2.2.2.2.2.2.1 x.2.2.2.2.2.2.2.2.2.2.1 x.2.2.2.2.2.2.2.2.2.2.2.1 x.2.2.2.2.2.2.2.2.2.2.2.2.1 x.2.2.2.2.2.2.2.2.2.2.2.2.2.1) x = some y → LoopCon Go.Proofs.Tryd.prog E S b_mat_Mul_2 (encSlots h_mat_Mul_2 x) (encEx e_mat_Mul_2 y).1 (encEx e_mat_Mul_2 y).2 :=
  loop_spec E_ok mixed (cs_mat_Mul_ok S N) (all := loopsOf b_mat_Mul) (ls := []) (.nil) (i := 2) (by kernel_rfl) (inner_of (by kernel_rfl)) (head := h_mat_Mul_2) (ex := e_mat_Mul_2) (fun n (x : Val (slotsTy h_mat_Mul_2)) => g_mat_Mul_2 N n x.1 x.2.1 x.2.2.1 x.2.2.2.1 x.2.2.2.2.1 x.2.2.2.2.2.1 x.2.2.2.2.2.2.1 x.2.2.2.2.2.2.2.1 x.2.2.2.2.2.2.2.2.1 x.2.2.2.2.2.2.2.2.2.1 x.2.2.2.2.2.2.2.2.2.2.1 x.2.2.2.2.2.2.2.2.2.2.2.1 x.2.2.2.2.2.2.2.2.2.2.2.2.1 x.2.2.2.2.2.2.2.2.2.2.2.2.2.1) (fun _ => rfl) (fun n x => by kernel_rfl)
noncomputable abbrev b_mat_Mul_1 : Code := (loopsOf b_mat_Mul).getD 1 .skip
theorem g_mat_Mul_1_ok (S : Nat → Addr) (N : Nat) : ∀ n x y, (fun (x : Val (slotsTy h_mat_Mul_1)) => g_mat_Mul_1 N n x.1 x.2.1 x.2.2.1 x.2.2.2.1 x.2.2.2.2.1 x.2.2.2.2.2.1 x.2.2.2.2.2.2.1 x.2.2.2.2.2.2.2.1 x.2.2.2.2.2.2.2.2.1 x.2.2.2.2.2.2.2.2.2.1 x.2.2.2.2.2.2.2.2.2.2.1) x = some y → LoopCon Go.Proofs.Tryd.prog E S b_mat_Mul_1 (encSlots h_mat_Mul_1 x) (encEx e_mat_Mul_1 y).1 (encEx e_mat_Mul_1 y).2 :=
  loop_spec E_ok mixed (cs_mat_Mul_ok S N) (all := loopsOf b_mat_Mul) (ls := [l_mat_Mul_2 N]) (.cons (by kernel_rfl) (g_mat_Mul_2_ok S N N) (.nil)) (i := 1) (by kernel_rfl) (inner_of (by kernel_rfl)) (head := h_mat_Mul_1) (ex := e_mat_Mul_1) (fun n (x : Val (slotsTy h_mat_Mul_1)) => g_mat_Mul_1 N n x.1 x.2.1 x.2.2.1 x.2.2.2.1 x.2.2.2.2.1 x.2.2.2.2.2.1 x.2.2.2.2.2.2.1 x.2.2.2.2.2.2.2.1 x.2.2.2.2.2.2.2.2.1 x.2.2.2.2.2.2.2.2.2.1 x.2.2.2.2.2.2.2.2.2.2.1) (fun _ => rfl) (fun n x => by kernel_rfl)
noncomputable abbrev b_mat_Mul_0 : Code := (loopsOf b_mat_Mul).getD 0 .skip
theorem g_mat_Mul_0_ok (S : Nat → Addr) (N : Nat) : ∀ n x y, (fun (x : Val (slotsTy h_mat_Mul_0)) => g_mat_Mul_0 N n x.1 x.2.1 x.2.2.1 x.2.2.2.1 x.2.2.2.2.1 x.2.2.2.2.2.1 x.2.2.2.2.2.2.1 x.2.2.2.2.2.2.2.1 x.2.2.2.2.2.2.2.2.1 x.2.2.2.2.2.2.2.2.2.1) x = some y → LoopCon Go.Proofs.Tryd.prog E S b_mat_Mul_0 (encSlots h_mat_Mul_0 x) (encEx e_mat_Mul_0 y).1 (encEx e_mat_Mul_0 y).2 :=
  loop_spec E_ok mixed (cs_mat_Mul_ok S N) (all := loopsOf b_mat_Mul) (ls := [l_mat_Mul_2 N, l_mat_Mul_1 N]) (.cons (by kernel_rfl) (g_mat_Mul_2_ok S N N) (.cons (by kernel_rfl) (g_mat_Mul_1_ok S N N) (.nil))) (i := 0) (by kernel_rfl) (inner_of (by kernel_rfl)) (head := h_mat_Mul_0) (ex := e_mat_Mul_0) (fun n (x : Val (slotsTy h_mat_Mul_0)) => g_mat_Mul_0 N n x.1 x.2.1 x.2.2.1 x.2.2.2.1 x.2.2.2.2.1 x.2.2.2.2.2.1 x.2.2.2.2.2.2.1 x.2.2.2.2.2.2.2.1 x.2.2.2.2.2.2.2.2.1 x.2.2.2.2.2.2.2.2.2.1) (fun _ => rfl) (fun n x => by kernel_rfl)
theorem F_mat_Mul_ok (S : Nat → Addr) (N : Nat) : ∀ x y, (c_mat_Mul N).g x = some y → FCon Go.Proofs.Tryd.prog E S 28 ps_mat_Mul rs_mat_Mul x y := by
  intro x y h
  exact fun_spec E_ok mixed (cs_mat_Mul_ok S N) (f := 28) (fi := ⟨b_mat_Mul, 104, Go.Proofs.Tryd.f28.results.toList⟩) (by kernel_rfl) (ls := [l_mat_Mul_2 N, l_mat_Mul_1 N, l_mat_Mul_0 N]) (.cons (by kernel_rfl) (g_mat_Mul_2_ok S N N) (.cons (by kernel_rfl) (g_mat_Mul_1_ok S N N) (.cons (by kernel_rfl) (g_mat_Mul_0_ok S N N) (.nil)))) (by kernel_rfl) (ps := ps_mat_Mul) (rs := rs_mat_Mul) (Eq.trans (b := F_mat_Mul N x.1 x.2.1 x.2.2.1 x.2.2.2.1) (by kernel_rfl) h)

/-! lodge/lodgelaw11.SoftRows -/

abbrev ps_lodgelaw11_SoftRows : List Ty := [(.int .i64), (.int .i64), (.sl (.int .i64))]
abbrev rs_lodgelaw11_SoftRows : List Slot := [.data .bool]
abbrev cs_lodgelaw11_SoftRows (N : Nat) : List CallSpec := [c_lodgeref_SameInts N, c_lodgelaw11_first N, c_lodgeworld_Number N, c_soft_ArgMax N, c_soft_Sum N, c_mat_Mul N]
noncomputable abbrev b_lodgelaw11_SoftRows : Code := (Go.Proofs.Tryd.f8.body).getD .skip

abbrev h_lodgelaw11_SoftRows_0 : List Slot := [.data (.int .i64), .data (.int .i64), .data (.sl (.int .i64)), .dead, .dead, .dead, .dead, .dead, .box [.sl (.int .i64), .d .bool, .sl (.int .i64)], .data (.int .i64), .dead, .dead, .dead, .dead, .dead, .dead, .dead, .dead, .dead, .dead, .dead, .dead, .dead, .dead, .dead, .dead, .dead, .dead, .dead, .dead, .dead, .dead, .dead, .dead, .dead, .dead, .dead, .dead, .dead, .dead, .dead, .dead, .dead, .dead, .dead, .dead, .dead, .dead, .dead, .dead, .dead, .dead, .dead, .dead, .dead, .dead, .dead, .dead, .dead, .dead, .dead, .dead, .dead, .dead, .dead, .dead, .dead, .dead, .dead, .dead, .dead, .dead, .dead, .dead, .dead, .dead, .dead, .dead, .dead, .dead, .dead, .dead, .dead, .dead, .dead, .dead, .dead, .dead, .dead, .dead, .dead, .dead, .dead, .dead, .dead, .dead, .dead, .dead, .dead, .dead, .dead, .dead, .dead, .dead, .dead, .dead, .dead, .dead, .dead, .dead, .dead, .dead, .dead, .dead, .dead, .dead, .dead, .dead, .dead, .dead, .dead, .dead, .dead, .dead, .dead, .dead, .dead, .dead, .dead, .dead, .dead, .dead, .dead, .dead, .dead, .dead, .dead, .dead, .dead, .dead, .dead, .dead, .dead, .dead, .dead, .dead, .dead, .dead, .dead, .dead, .dead, .dead, .dead, .dead, .dead, .dead, .dead, .dead, .dead, .dead, .dead, .dead, .dead, .dead, .dead, .dead, .dead, .dead, .dead, .dead, .dead, .dead, .dead, .dead, .dead, .dead, .dead, .dead, .dead, .dead, .dead, .dead, .dead, .dead, .dead, .dead, .dead, .dead, .dead, .dead, .dead, .dead, .dead, .dead, .dead, .dead, .dead, .dead]
abbrev e_lodgelaw11_SoftRows_0 : List (AX × List Slot) := [(AX.exit 0, [.data (.int .i64), .data (.int .i64), .dead, .dead, .dead, .dead, .dead, .dead, .box [.sl (.int .i64), .d .bool, .sl (.int .i64)], .dead, .dead, .dead, .dead, .dead, .dead, .dead, .dead, .dead, .dead, .dead, .dead, .dead, .dead, .dead, .dead, .dead, .dead, .dead, .dead, .dead, .dead, .dead, .dead, .dead, .dead, .dead, .dead, .dead, .dead, .dead, .dead, .dead, .dead, .dead, .dead, .dead, .dead, .dead, .dead, .dead, .dead, .dead, .dead, .dead, .dead, .dead, .dead, .dead, .dead, .dead, .dead, .dead, .dead, .dead, .dead, .dead, .dead, .dead, .dead, .dead, .dead, .dead, .dead, .dead, .dead, .dead, .dead, .dead, .dead, .dead, .dead, .dead, .dead, .dead, .dead, .dead, .dead, .dead, .dead, .dead, .dead, .dead, .dead, .dead, .dead, .dead, .dead, .dead, .dead, .dead, .dead, .dead, .dead, .dead, .dead, .dead, .dead, .dead, .dead, .dead, .dead, .dead, .dead, .dead, .dead, .dead, .dead, .dead, .dead, .dead, .dead, .dead, .dead, .dead, .dead, .dead, .dead, .dead, .dead, .dead, .dead, .dead, .dead, .dead, .dead, .dead, .dead, .dead, .dead, .dead, .dead, .dead, .dead, .dead, .dead, .dead, .dead, .dead, .dead, .dead, .dead, .dead, .dead, .dead, .dead, .dead, .dead, .dead, .dead, .dead, .dead, .dead, .dead, .dead, .dead, .dead, .dead, .dead, .dead, .dead, .dead, .dead, .dead, .dead, .dead, .dead, .dead, .dead, .dead, .dead, .dead, .dead, .dead, .dead, .dead, .dead, .dead, .dead, .dead, .dead, .dead, .dead, .dead, .dead, .dead, .dead, .dead, .dead])]
def g_lodgelaw11_SoftRows_0 (N : Nat) : Nat → Int → Int → List Int → (List Int × (Bool × (List Int × Unit))) → Int → Option (Int × (Int × ((List Int × (Bool × (List Int × Unit))) × Unit)))
  | 0, _, _, _, _, _ => none
  | n + 1, m_0, n_1, l_2, a_8, i_9 =>
    cond (decide (i_9 < (wi64 (m_0 * n_1))))
      (
      cond (decide ((0 : Int) < (Nat.cast (List.length l_2) : Int)))
        (
        cond (decide (@Ne Int (Nat.cast (List.length l_2) : Int) (0 : Int)))
          (
          cond (decide ((0 : Int) ≤ (Int.tmod i_9 (Nat.cast (List.length l_2) : Int))))
            (
            cond (decide ((Int.toNat (Int.tmod i_9 (Nat.cast (List.length l_2) : Int))) < (List.length l_2)))
              (
              Option.bind (F_lodgeworld_Number N (wi64 ((List.getD l_2 (Int.toNat (Int.tmod i_9 (Nat.cast (List.length l_2) : Int))) (0 : Int)) + (wi64 (i_9 * i_9)))) (256 : Int)) fun y5 =>
              cond (decide (((0 : Nat) + (List.length (((a_8).2).2).1)) = (List.length (((a_8).2).2).1)))
                (
                cond (decide ((((List.length (((a_8).2).2).1) + 1) * (8 + (1 : Nat))) ≤ Go.Eng.most))
                  (
                  cond (decide ((List.length (a_8).1) = (List.length (a_8).1)))
                    (
                    cond (decide (((List.length (((a_8).2).2).1) + 1) = (List.length ((List.take (List.length (((a_8).2).2).1) (((a_8).2).2).1) ++ ((wi64 ((y5).1 - (128 : Int))) :: ([] : List Int))))))
                      (
                      (g_lodgelaw11_SoftRows_0 N n m_0 n_1 l_2 ((a_8).1, (((a_8).2).1, (((List.take (List.length (((a_8).2).2).1) (((a_8).2).2).1) ++ ((wi64 ((y5).1 - (128 : Int))) :: ([] : List Int))), ()))) (wi64 (i_9 + (1 : Int)))))
                      (
                      none))
                    (
                    none))
                  (
                  none))
                (
                none))
              (
              none))
            (
            none))
          (
          none))
        (
        Option.bind (F_lodgeworld_Number N i_9 (256 : Int)) fun y6 =>
        cond (decide (((0 : Nat) + (List.length (((a_8).2).2).1)) = (List.length (((a_8).2).2).1)))
          (
          cond (decide ((((List.length (((a_8).2).2).1) + 1) * (8 + (1 : Nat))) ≤ Go.Eng.most))
            (
            cond (decide ((List.length (a_8).1) = (List.length (a_8).1)))
              (
              cond (decide (((List.length (((a_8).2).2).1) + 1) = (List.length ((List.take (List.length (((a_8).2).2).1) (((a_8).2).2).1) ++ ((wi64 ((y6).1 - (128 : Int))) :: ([] : List Int))))))
                (
                (g_lodgelaw11_SoftRows_0 N n m_0 n_1 l_2 ((a_8).1, (((a_8).2).1, (((List.take (List.length (((a_8).2).2).1) (((a_8).2).2).1) ++ ((wi64 ((y6).1 - (128 : Int))) :: ([] : List Int))), ()))) (wi64 (i_9 + (1 : Int)))))
                (
                none))
              (
              none))
            (
            none))
          (
          none)))
      (
      cond (decide ((List.length (a_8).1) = (List.length (a_8).1)))
        (
        cond (decide ((List.length (((a_8).2).2).1) = (List.length (((a_8).2).2).1)))
          (
          some (m_0, (n_1, (a_8, ()))))
          (
          none))
        (
        none))

abbrev h_lodgelaw11_SoftRows_1 : List Slot := [.data (.int .i64), .data (.int .i64), .dead, .dead, .dead, .dead, .dead, .dead, .box [.sl (.int .i64), .d .bool, .sl (.int .i64)], .dead, .dead, .box [.sl (.int .i64), .d .bool, .sl (.int .i64)], .data (.int .i64), .dead, .dead, .dead, .dead, .dead, .dead, .dead, .dead, .dead, .dead, .dead, .dead, .dead, .dead, .dead, .dead, .dead, .dead, .dead, .dead, .dead, .dead, .dead, .dead, .dead, .dead, .dead, .dead, .dead, .dead, .dead, .dead, .dead, .dead, .dead, .dead, .dead, .dead, .dead, .dead, .dead, .dead, .dead, .dead, .dead, .dead, .dead, .dead, .dead, .dead, .dead, .dead, .dead, .dead, .dead, .dead, .dead, .dead, .dead, .dead, .dead, .dead, .dead, .dead, .dead, .dead, .dead, .dead, .dead, .dead, .dead, .dead, .dead, .dead, .dead, .dead, .dead, .dead, .dead, .dead, .dead, .dead, .dead, .dead, .dead, .dead, .dead, .dead, .dead, .dead, .dead, .dead, .dead, .dead, .dead, .dead, .dead, .dead, .dead, .dead, .dead, .dead, .dead, .dead, .dead, .dead, .dead, .dead, .dead, .dead, .dead, .dead, .dead, .dead, .dead, .dead, .dead, .dead, .dead, .dead, .dead, .dead, .dead, .dead, .dead, .dead, .dead, .dead, .dead, .dead, .dead, .dead, .dead, .dead, .dead, .dead, .dead, .dead, .dead, .dead, .dead, .dead, .dead, .dead, .dead, .dead, .dead, .dead, .dead, .dead, .dead, .dead, .dead, .dead, .dead, .dead, .dead, .dead, .dead, .dead, .dead, .dead, .dead, .dead, .dead, .dead, .dead, .dead, .dead, .dead, .dead, .dead, .dead, .dead, .dead, .dead, .dead, .dead, .dead, .dead, .dead, .dead, .dead, .dead, .dead]
abbrev e_lodgelaw11_SoftRows_1 : List (AX × List Slot) := [(AX.exit 2, [.data (.int .i64), .data (.int .i64), .dead, .dead, .dead, .dead, .dead, .dead, .box [.sl (.int .i64), .d .bool, .sl (.int .i64)], .dead, .dead, .box [.sl (.int .i64), .d .bool, .sl (.int .i64)], .dead, .dead, .dead, .dead, .dead, .dead, .dead, .dead, .dead, .dead, .dead, .dead, .dead, .dead, .dead, .dead, .dead, .dead, .dead, .dead, .dead, .dead, .dead, .dead, .dead, .dead, .dead, .dead, .dead, .dead, .dead, .dead, .dead, .dead, .dead, .dead, .dead, .dead, .dead, .dead, .dead, .dead, .dead, .dead, .dead, .dead, .dead, .dead, .dead, .dead, .dead, .dead, .dead, .dead, .dead, .dead, .dead, .dead, .dead, .dead, .dead, .dead, .dead, .dead, .dead, .dead, .dead, .dead, .dead, .dead, .dead, .dead, .dead, .dead, .dead, .dead, .dead, .dead, .dead, .dead, .dead, .dead, .dead, .dead, .dead, .dead, .dead, .dead, .dead, .dead, .dead, .dead, .dead, .dead, .dead, .dead, .dead, .dead, .dead, .dead, .dead, .dead, .dead, .dead, .dead, .dead, .dead, .dead, .dead, .dead, .dead, .dead, .dead, .dead, .dead, .dead, .dead, .dead, .dead, .dead, .dead, .dead, .dead, .dead, .dead, .dead, .dead, .dead, .dead, .dead, .dead, .dead, .dead, .dead, .dead, .dead, .dead, .dead, .dead, .dead, .dead, .dead, .dead, .dead, .dead, .dead, .dead, .dead, .dead, .dead, .dead, .dead, .dead, .dead, .dead, .dead, .dead, .dead, .dead, .dead, .dead, .dead, .dead, .dead, .dead, .dead, .dead, .dead, .dead, .dead, .dead, .dead, .dead, .dead, .dead, .dead, .dead, .dead, .dead, .dead, .dead, .dead, .dead, .dead, .dead, .dead])]
def g_lodgelaw11_SoftRows_1 (N : Nat) : Nat → Int → Int → (List Int × (Bool × (List Int × Unit))) → (List Int × (Bool × (List Int × Unit))) → Int → Option (Int × (Int × ((List Int × (Bool × (List Int × Unit))) × ((List Int × (Bool × (List Int × Unit))) × Unit))))
  | 0, _, _, _, _, _ => none
  | n + 1, m_0, n_1, a_8, one_11, i_12 =>
    cond (decide (i_12 < n_1))
      (
      cond (decide ((0 : Int) ≤ i_12))
        (
        cond (decide ((Int.toNat i_12) < (List.length (((one_11).2).2).1)))
          (
          cond (decide (((0 : Nat) + (Int.toNat i_12)) < (List.length (((one_11).2).2).1)))
            (
            cond (decide ((List.length (a_8).1) = (List.length (a_8).1)))
              (
              cond (decide ((List.length (((a_8).2).2).1) = (List.length (((a_8).2).2).1)))
                (
                cond (decide ((List.length (one_11).1) = (List.length (one_11).1)))
                  (
                  cond (decide ((List.length (((one_11).2).2).1) = (List.length (List.set (((one_11).2).2).1 ((0 : Nat) + (Int.toNat i_12)) (1 : Int)))))
                    (
                    (g_lodgelaw11_SoftRows_1 N n m_0 n_1 a_8 ((one_11).1, (((one_11).2).1, ((List.set (((one_11).2).2).1 ((0 : Nat) + (Int.toNat i_12)) (1 : Int)), ()))) (wi64 (i_12 + (1 : Int)))))
                    (
                    none))
                  (
                  none))
                (
                none))
              (
              none))
            (
            none))
          (
          none))
        (
        none))
      (
      cond (decide ((List.length (a_8).1) = (List.length (a_8).1)))
        (
        cond (decide ((List.length (((a_8).2).2).1) = (List.length (((a_8).2).2).1)))
          (
          cond (decide ((List.length (one_11).1) = (List.length (one_11).1)))
            (
            cond (decide ((List.length (((one_11).2).2).1) = (List.length (((one_11).2).2).1)))
              (
              some (m_0, (n_1, (a_8, (one_11, ())))))
              (
              none))
            (
            none))
          (
          none))
        (
        none))

abbrev h_lodgelaw11_SoftRows_3 : List Slot := [.data (.int .i64), .data (.int .i64), .dead, .dead, .dead, .dead, .dead, .dead, .box [.d (.st (.pair (.st (.pair (.sl (.int .i64)) .bool)) (.sl (.int .i64))))], .dead, .dead, .dead, .dead, .dead, .dead, .dead, .dead, .box [.d (.sl (.int .i64)), .d .bool, .sl (.int .i64)], .dead, .data (.int .i64), .data (.int .i64), .data (.int .i64), .dead, .dead, .dead, .dead, .dead, .dead, .dead, .dead, .dead, .dead, .dead, .dead, .dead, .dead, .dead, .dead, .dead, .dead, .dead, .dead, .dead, .dead, .dead, .dead, .dead, .dead, .dead, .dead, .dead, .dead, .dead, .dead, .dead, .dead, .dead, .dead, .dead, .dead, .dead, .dead, .dead, .dead, .dead, .dead, .dead, .dead, .dead, .dead, .dead, .dead, .dead, .dead, .dead, .dead, .dead, .dead, .dead, .dead, .dead, .dead, .dead, .dead, .dead, .dead, .dead, .dead, .dead, .dead, .dead, .dead, .dead, .dead, .dead, .dead, .dead, .dead, .dead, .dead, .dead, .dead, .dead, .dead, .dead, .dead, .dead, .dead, .dead, .dead, .dead, .dead, .dead, .dead, .dead, .dead, .dead, .dead, .dead, .dead, .dead, .dead, .dead, .dead, .dead, .dead, .dead, .dead, .dead, .dead, .dead, .dead, .dead, .dead, .dead, .dead, .dead, .dead, .dead, .dead, .dead, .dead, .dead, .dead, .dead, .dead, .dead, .dead, .dead, .dead, .dead, .dead, .dead, .dead, .dead, .dead, .dead, .dead, .dead, .dead, .dead, .dead, .dead, .dead, .dead, .dead, .dead, .dead, .dead, .dead, .dead, .dead, .dead, .dead, .dead, .dead, .dead, .dead, .dead, .dead, .dead, .dead, .dead, .dead, .dead, .dead, .dead, .dead, .dead, .dead, .dead, .dead, .dead, .dead, .dead, .dead, .dead, .dead]
abbrev e_lodgelaw11_SoftRows_3 : List (AX × List Slot) := [(AX.exit 6, [.data (.int .i64), .data (.int .i64), .dead, .dead, .dead, .dead, .dead, .dead, .box [.d (.st (.pair (.st (.pair (.sl (.int .i64)) .bool)) (.sl (.int .i64))))], .dead, .dead, .dead, .dead, .dead, .dead, .dead, .dead, .box [.d (.sl (.int .i64)), .d .bool, .sl (.int .i64)], .dead, .data (.int .i64), .dead, .dead, .dead, .dead, .dead, .dead, .dead, .dead, .dead, .dead, .dead, .dead, .dead, .dead, .dead, .dead, .dead, .dead, .dead, .dead, .dead, .dead, .dead, .dead, .dead, .dead, .dead, .dead, .dead, .dead, .dead, .dead, .dead, .dead, .dead, .dead, .dead, .dead, .dead, .dead, .dead, .dead, .dead, .dead, .dead, .dead, .dead, .dead, .dead, .dead, .dead, .dead, .dead, .dead, .dead, .dead, .dead, .dead, .dead, .dead, .dead, .dead, .dead, .dead, .dead, .dead, .dead, .dead, .dead, .dead, .dead, .dead, .dead, .dead, .dead, .dead, .dead, .dead, .dead, .dead, .dead, .dead, .dead, .dead, .dead, .dead, .dead, .dead, .dead, .dead, .dead, .dead, .dead, .dead, .dead, .dead, .dead, .dead, .dead, .dead, .dead, .dead, .dead, .dead, .dead, .dead, .dead, .dead, .dead, .dead, .dead, .dead, .dead, .dead, .dead, .dead, .dead, .dead, .dead, .dead, .dead, .dead, .dead, .dead, .dead, .dead, .dead, .dead, .dead, .dead, .dead, .dead, .dead, .dead, .dead, .dead, .dead, .dead, .dead, .dead, .dead, .dead, .dead, .dead, .dead, .dead, .dead, .dead, .dead, .dead, .dead, .dead, .dead, .dead, .dead, .dead, .dead, .dead, .dead, .dead, .dead, .dead, .dead, .dead, .dead, .dead, .dead, .dead, .dead, .dead, .dead, .dead, .dead, .dead, .dead, .dead, .dead, .dead]), (AX.ret, [.dead, .dead, .dead, .dead, .dead, .dead, .data .bool, .dead, .dead, .dead, .dead, .dead, .dead, .dead, .dead, .dead, .dead, .dead, .dead, .dead, .dead, .dead, .dead, .dead, .dead, .dead, .dead, .dead, .dead, .dead, .dead, .dead, .dead, .dead, .dead, .dead, .dead, .dead, .dead, .dead, .dead, .dead, .dead, .dead, .dead, .dead, .dead, .dead, .dead, .dead, .dead, .dead, .dead, .dead, .dead, .dead, .dead, .dead, .dead, .dead, .dead, .dead, .dead, .dead, .dead, .dead, .dead, .dead, .dead, .dead, .dead, .dead, .dead, .dead, .dead, .dead, .dead, .dead, .dead, .dead, .dead, .dead, .dead, .dead, .dead, .dead, .dead, .dead, .dead, .dead, .dead, .dead, .dead, .dead, .dead, .dead, .dead, .dead, .dead, .dead, .dead, .dead, .dead, .dead, .dead, .dead, .dead, .dead, .dead, .dead, .dead, .dead, .dead, .dead, .dead, .dead, .dead, .dead, .dead, .dead, .dead, .dead, .dead, .dead, .dead, .dead, .dead, .dead, .dead, .dead, .dead, .dead, .dead, .dead, .dead, .dead, .dead, .dead, .dead, .dead, .dead, .dead, .dead, .dead, .dead, .dead, .dead, .dead, .dead, .dead, .dead, .dead, .dead, .dead, .dead, .dead, .dead, .dead, .dead, .dead, .dead, .dead, .dead, .dead, .dead, .dead, .dead, .dead, .dead, .dead, .dead, .dead, .dead, .dead, .dead, .dead, .dead, .dead, .dead, .dead, .dead, .dead, .dead, .dead, .dead, .dead, .dead, .dead, .dead, .dead, .dead, .dead, .dead, .dead, .dead, .dead, .dead, .dead])]
def g_lodgelaw11_SoftRows_3 (N : Nat) : Nat → Int → Int → (((List Int × Bool) × List Int) × Unit) → (List Int × (Bool × (List Int × Unit))) → Int → Int → Int → Option (Sum (Int × (Int × ((((List Int × Bool) × List Int) × Unit) × ((List Int × (Bool × (List Int × Unit))) × (Int × Unit))))) (Bool × Unit))
  | 0, _, _, _, _, _, _, _ => none
  | n + 1, m_0, n_1, a_8, g_17, i_19, k_20, j_21 =>
    cond (decide (j_21 < n_1))
      (
      cond (decide ((0 : Int) ≤ (wi64 ((wi64 (i_19 * n_1)) + j_21))))
        (
        cond (decide ((Int.toNat (wi64 ((wi64 (i_19 * n_1)) + j_21))) < (List.length ((a_8).1).2)))
          (
          cond (decide ((0 : Int) ≤ (wi64 ((wi64 (i_19 * n_1)) + k_20))))
            (
            cond (decide ((Int.toNat (wi64 ((wi64 (i_19 * n_1)) + k_20))) < (List.length ((a_8).1).2)))
              (
              cond (decide ((List.getD ((a_8).1).2 (Int.toNat (wi64 ((wi64 (i_19 * n_1)) + k_20))) (0 : Int)) < (List.getD ((a_8).1).2 (Int.toNat (wi64 ((wi64 (i_19 * n_1)) + j_21))) (0 : Int))))
                (
                some (Sum.inr (false, ())))
                (
                cond (decide (j_21 < k_20))
                  (
                  cond (decide ((0 : Int) ≤ (wi64 ((wi64 (i_19 * n_1)) + j_21))))
                    (
                    cond (decide ((Int.toNat (wi64 ((wi64 (i_19 * n_1)) + j_21))) < (List.length ((a_8).1).2)))
                      (
                      cond (decide ((0 : Int) ≤ (wi64 ((wi64 (i_19 * n_1)) + k_20))))
                        (
                        cond (decide ((Int.toNat (wi64 ((wi64 (i_19 * n_1)) + k_20))) < (List.length ((a_8).1).2)))
                          (
                          cond (decide ((List.getD ((a_8).1).2 (Int.toNat (wi64 ((wi64 (i_19 * n_1)) + j_21))) (0 : Int)) = (List.getD ((a_8).1).2 (Int.toNat (wi64 ((wi64 (i_19 * n_1)) + k_20))) (0 : Int))))
                            (
                            some (Sum.inr (false, ())))
                            (
                            cond (decide ((List.length (((g_17).2).2).1) = (List.length (((g_17).2).2).1)))
                              (
                              (g_lodgelaw11_SoftRows_3 N n m_0 n_1 a_8 g_17 i_19 k_20 (wi64 (j_21 + (1 : Int)))))
                              (
                              none)))
                          (
                          none))
                        (
                        none))
                      (
                      none))
                    (
                    none))
                  (
                  cond (decide ((List.length (((g_17).2).2).1) = (List.length (((g_17).2).2).1)))
                    (
                    (g_lodgelaw11_SoftRows_3 N n m_0 n_1 a_8 g_17 i_19 k_20 (wi64 (j_21 + (1 : Int)))))
                    (
                    none))))
              (
              none))
            (
            none))
          (
          none))
        (
        none))
      (
      cond (decide ((List.length (((g_17).2).2).1) = (List.length (((g_17).2).2).1)))
        (
        some (Sum.inl (m_0, (n_1, (a_8, (g_17, (i_19, ())))))))
        (
        none))

abbrev h_lodgelaw11_SoftRows_2 : List Slot := [.data (.int .i64), .data (.int .i64), .dead, .dead, .dead, .dead, .dead, .dead, .box [.d (.st (.pair (.st (.pair (.sl (.int .i64)) .bool)) (.sl (.int .i64))))], .dead, .dead, .dead, .dead, .dead, .dead, .dead, .dead, .box [.d (.sl (.int .i64)), .d .bool, .sl (.int .i64)], .dead, .data (.int .i64), .dead, .dead, .dead, .dead, .dead, .dead, .dead, .dead, .dead, .dead, .dead, .dead, .dead, .dead, .dead, .dead, .dead, .dead, .dead, .dead, .dead, .dead, .dead, .dead, .dead, .dead, .dead, .dead, .dead, .dead, .dead, .dead, .dead, .dead, .dead, .dead, .dead, .dead, .dead, .dead, .dead, .dead, .dead, .dead, .dead, .dead, .dead, .dead, .dead, .dead, .dead, .dead, .dead, .dead, .dead, .dead, .dead, .dead, .dead, .dead, .dead, .dead, .dead, .dead, .dead, .dead, .dead, .dead, .dead, .dead, .dead, .dead, .dead, .dead, .dead, .dead, .dead, .dead, .dead, .dead, .dead, .dead, .dead, .dead, .dead, .dead, .dead, .dead, .dead, .dead, .dead, .dead, .dead, .dead, .dead, .dead, .dead, .dead, .dead, .dead, .dead, .dead, .dead, .dead, .dead, .dead, .dead, .dead, .dead, .dead, .dead, .dead, .dead, .dead, .dead, .dead, .dead, .dead, .dead, .dead, .dead, .dead, .dead, .dead, .dead, .dead, .dead, .dead, .dead, .dead, .dead, .dead, .dead, .dead, .dead, .dead, .dead, .dead, .dead, .dead, .dead, .dead, .dead, .dead, .dead, .dead, .dead, .dead, .dead, .dead, .dead, .dead, .dead, .dead, .dead, .dead, .dead, .dead, .dead, .dead, .dead, .dead, .dead, .dead, .dead, .dead, .dead, .dead, .dead, .dead, .dead, .dead, .dead, .dead, .dead, .dead, .dead, .dead]
abbrev e_lodgelaw11_SoftRows_2 : List (AX × List Slot) := [(AX.exit 4, [.dead, .dead, .dead, .dead, .dead, .dead, .dead, .dead, .dead, .dead, .dead, .dead, .dead, .dead, .dead, .dead, .dead, .dead, .dead, .dead, .dead, .dead, .dead, .dead, .dead, .dead, .dead, .dead, .dead, .dead, .dead, .dead, .dead, .dead, .dead, .dead, .dead, .dead, .dead, .dead, .dead, .dead, .dead, .dead, .dead, .dead, .dead, .dead, .dead, .dead, .dead, .dead, .dead, .dead, .dead, .dead, .dead, .dead, .dead, .dead, .dead, .dead, .dead, .dead, .dead, .dead, .dead, .dead, .dead, .dead, .dead, .dead, .dead, .dead, .dead, .dead, .dead, .dead, .dead, .dead, .dead, .dead, .dead, .dead, .dead, .dead, .dead, .dead, .dead, .dead, .dead, .dead, .dead, .dead, .dead, .dead, .dead, .dead, .dead, .dead, .dead, .dead, .dead, .dead, .dead, .dead, .dead, .dead, .dead, .dead, .dead, .dead, .dead, .dead, .dead, .dead, .dead, .dead, .dead, .dead, .dead, .dead, .dead, .dead, .dead, .dead, .dead, .dead, .dead, .dead, .dead, .dead, .dead, .dead, .dead, .dead, .dead, .dead, .dead, .dead, .dead, .dead, .dead, .dead, .dead, .dead, .dead, .dead, .dead, .dead, .dead, .dead, .dead, .dead, .dead, .dead, .dead, .dead, .dead, .dead, .dead, .dead, .dead, .dead, .dead, .dead, .dead, .dead, .dead, .dead, .dead, .dead, .dead, .dead, .dead, .dead, .dead, .dead, .dead, .dead, .dead, .dead, .dead, .dead, .dead, .dead, .dead, .dead, .dead, .dead, .dead, .dead, .dead, .dead, .dead, .dead, .dead, .dead]), (AX.ret, [.dead, .dead, .dead, .dead, .dead, .dead, .data .bool, .dead, .dead, .dead, .dead, .dead, .dead, .dead, .dead, .dead, .dead, .dead, .dead, .dead, .dead, .dead, .dead, .dead, .dead, .dead, .dead, .dead, .dead, .dead, .dead, .dead, .dead, .dead, .dead, .dead, .dead, .dead, .dead, .dead, .dead, .dead, .dead, .dead, .dead, .dead, .dead, .dead, .dead, .dead, .dead, .dead, .dead, .dead, .dead, .dead, .dead, .dead, .dead, .dead, .dead, .dead, .dead, .dead, .dead, .dead, .dead, .dead, .dead, .dead, .dead, .dead, .dead, .dead, .dead, .dead, .dead, .dead, .dead, .dead, .dead, .dead, .dead, .dead, .dead, .dead, .dead, .dead, .dead, .dead, .dead, .dead, .dead, .dead, .dead, .dead, .dead, .dead, .dead, .dead, .dead, .dead, .dead, .dead, .dead, .dead, .dead, .dead, .dead, .dead, .dead, .dead, .dead, .dead, .dead, .dead, .dead, .dead, .dead, .dead, .dead, .dead, .dead, .dead, .dead, .dead, .dead, .dead, .dead, .dead, .dead, .dead, .dead, .dead, .dead, .dead, .dead, .dead, .dead, .dead, .dead, .dead, .dead, .dead, .dead, .dead, .dead, .dead, .dead, .dead, .dead, .dead, .dead, .dead, .dead, .dead, .dead, .dead, .dead, .dead, .dead, .dead, .dead, .dead, .dead, .dead, .dead, .dead, .dead, .dead, .dead, .dead, .dead, .dead, .dead, .dead, .dead, .dead, .dead, .dead, .dead, .dead, .dead, .dead, .dead, .dead, .dead, .dead, .dead, .dead, .dead, .dead, .dead, .dead, .dead, .dead, .dead, .dead])]
def g_lodgelaw11_SoftRows_2 (N : Nat) : Nat → Int → Int → (((List Int × Bool) × List Int) × Unit) → (List Int × (Bool × (List Int × Unit))) → Int → Option (Sum Unit (Bool × Unit))
  | 0, _, _, _, _, _ => none
  | n + 1, m_0, n_1, a_8, g_17, i_19 =>
    cond (decide (i_19 < m_0))
      (
      cond (decide ((0 : Int) ≤ i_19))
        (
        cond (decide ((Int.toNat i_19) < (List.length (((g_17).2).2).1)))
          (
          cond (decide (((0 : Nat) + (Int.toNat i_19)) < (List.length (((g_17).2).2).1)))
            (
            cond (decide ((List.length (((g_17).2).2).1) = (List.length (((g_17).2).2).1)))
              (
              Option.bind (g_lodgelaw11_SoftRows_3 N N m_0 n_1 a_8 g_17 i_19 (List.getD (((g_17).2).2).1 ((0 : Nat) + (Int.toNat i_19)) (0 : Int)) (0 : Int)) fun y17 =>
              Sum.elim (fun y18 =>
                cond (decide ((List.length (((((((y18).2).2).2).1).2).2).1) = (List.length (((((((y18).2).2).2).1).2).2).1)))
                  (
                  (g_lodgelaw11_SoftRows_2 N n (y18).1 ((y18).2).1 (((y18).2).2).1 ((((y18).2).2).2).1 (wi64 ((((((y18).2).2).2).2).1 + (1 : Int)))))
                  (
                  none))
                (fun y19 =>
                some (Sum.inr y19)) y17)
              (
              none))
            (
            none))
          (
          none))
        (
        none))
      (
      some (Sum.inl ()))

def F_lodgelaw11_SoftRows (N : Nat) (m_0 : Int) (n_1 : Int) (l_2 : List Int) : Option (Bool × Unit) :=
  Option.bind (F_lodgelaw11_first N) fun y0 =>
  cond (Bool.not (y0).1)
    (
    some (false, ()))
    (
    cond (decide ((40 : Int) < (Nat.cast (List.length l_2) : Int)))
      (
      some y0)
      (
      cond (Bool.not (y0).1)
        (
        some y0)
        (
        Option.bind (F_lodgeworld_Number N m_0 (10 : Int)) fun y1 =>
        Option.bind (F_lodgeworld_Number N n_1 (10 : Int)) fun y2 =>
        Option.bind (g_lodgelaw11_SoftRows_0 N N (wi64 ((y1).1 + (1 : Int))) (wi64 ((y2).1 + (1 : Int))) l_2 (((wi64 ((y1).1 + (1 : Int))) :: ((wi64 ((y2).1 + (1 : Int))) :: ([] : List Int))), (false, (([] : List Int), ()))) (0 : Int)) fun y3 =>
        cond (decide ((0 : Int) ≤ ((y3).2).1))
          (
          cond (decide (((y3).2).1 ≤ ((y3).2).1))
            (
            cond (decide ((((y3).2).1 * ((Nat.cast 8 : Int) + (1 : Int))) ≤ (Nat.cast Go.Eng.most : Int)))
              (
              cond (decide ((List.length ((((y3).2).2).1).1) = (List.length ((((y3).2).2).1).1)))
                (
                cond (decide ((List.length ((((((y3).2).2).1).2).2).1) = (List.length ((((((y3).2).2).1).2).2).1)))
                  (
                  cond (decide ((Int.toNat ((y3).2).1) = (List.length (List.replicate (Int.toNat ((y3).2).1) (0 : Int)))))
                    (
                    Option.bind (g_lodgelaw11_SoftRows_1 N N (y3).1 ((y3).2).1 (((y3).2).2).1 ((((y3).2).1 :: ((1 : Int) :: ([] : List Int))), (false, ((List.replicate (Int.toNat ((y3).2).1) (0 : Int)), ()))) (0 : Int)) fun y4 =>
                    cond (decide (((0 : Nat) + (List.length ((((y4).2).2).1).1)) ≤ (List.length ((((y4).2).2).1).1)))
                      (
                      cond (decide (((0 : Nat) + (List.length ((((((y4).2).2).1).2).2).1)) ≤ (List.length ((((((y4).2).2).1).2).2).1)))
                        (
                        Option.bind (F_soft_Sum N (((List.take (List.length ((((y4).2).2).1).1) ((((y4).2).2).1).1), (((((y4).2).2).1).2).1), (List.take (List.length ((((((y4).2).2).1).2).2).1) ((((((y4).2).2).1).2).2).1))) fun y5 =>
                        cond (decide (((0 : Nat) + (List.length ((((y4).2).2).1).1)) ≤ (List.length ((((y4).2).2).1).1)))
                          (
                          cond (decide (((0 : Nat) + (List.length ((((((y4).2).2).1).2).2).1)) ≤ (List.length ((((((y4).2).2).1).2).2).1)))
                            (
                            cond (decide (((0 : Nat) + (List.length (((((y4).2).2).2).1).1)) ≤ (List.length (((((y4).2).2).2).1).1)))
                              (
                              cond (decide (((0 : Nat) + (List.length (((((((y4).2).2).2).1).2).2).1)) ≤ (List.length (((((((y4).2).2).2).1).2).2).1)))
                                (
                                Option.bind (F_mat_Mul N (((List.take (List.length ((((y4).2).2).1).1) ((((y4).2).2).1).1), (((((y4).2).2).1).2).1), (List.take (List.length ((((((y4).2).2).1).2).2).1) ((((((y4).2).2).1).2).2).1)) (((List.take (List.length (((((y4).2).2).2).1).1) (((((y4).2).2).2).1).1), ((((((y4).2).2).2).1).2).1), (List.take (List.length (((((((y4).2).2).2).1).2).2).1) (((((((y4).2).2).2).1).2).2).1)) (0 : Int) (0 : Int)) fun y6 =>
                                cond (decide (((0 : Nat) + (List.length ((((y4).2).2).1).1)) ≤ (List.length ((((y4).2).2).1).1)))
                                  (
                                  cond (decide (((0 : Nat) + (List.length ((((((y4).2).2).1).2).2).1)) ≤ (List.length ((((((y4).2).2).1).2).2).1)))
                                    (
                                    Option.bind (F_soft_ArgMax N (((List.take (List.length ((((y4).2).2).1).1) ((((y4).2).2).1).1), (((((y4).2).2).1).2).1), (List.take (List.length ((((((y4).2).2).1).2).2).1) ((((((y4).2).2).1).2).2).1))) fun y7 =>
                                    cond (Bool.not (Go.Eng.Er.isNil ((y5).2).1))
                                      (
                                      some (false, ()))
                                      (
                                      cond (Bool.not (Go.Eng.Er.isNil ((y6).2).1))
                                        (
                                        some (false, ()))
                                        (
                                        cond (Bool.not (Go.Eng.Er.isNil ((y7).2).1))
                                          (
                                          some (false, ()))
                                          (
                                          cond (decide (((0 : Nat) + (List.length ((((y5).1).2).2).1)) ≤ (List.length ((((y5).1).2).2).1)))
                                            (
                                            cond (decide (((0 : Nat) + (List.length ((((y6).1).2).2).1)) ≤ (List.length ((((y6).1).2).2).1)))
                                              (
                                              Option.bind (F_lodgeref_SameInts N (List.take (List.length ((((y5).1).2).2).1) ((((y5).1).2).2).1) (List.take (List.length ((((y6).1).2).2).1) ((((y6).1).2).2).1)) fun y8 =>
                                              cond (Bool.not (y8).1)
                                                (
                                                some (false, ()))
                                                (
                                                Option.bind (F_lodgeref_SameInts N ((y5).1).1 ((y4).1 :: ([] : List Int))) fun y9 =>
                                                cond (Bool.not (y9).1)
                                                  (
                                                  some (false, ()))
                                                  (
                                                  cond (Bool.not (((y5).1).2).1)
                                                    (
                                                    some (false, ()))
                                                    (
                                                    cond (decide (((0 : Nat) + (List.length ((((y4).2).2).1).1)) ≤ (List.length ((((y4).2).2).1).1)))
                                                      (
                                                      cond (decide (((0 : Nat) + (List.length ((((((y4).2).2).1).2).2).1)) ≤ (List.length ((((((y4).2).2).1).2).2).1)))
                                                        (
                                                        cond (decide (((0 : Nat) + (List.length ((((y4).2).2).1).1)) ≤ (List.length ((((y4).2).2).1).1)))
                                                          (
                                                          cond (decide (((0 : Nat) + (List.length ((((((y4).2).2).1).2).2).1)) ≤ (List.length ((((((y4).2).2).1).2).2).1)))
                                                            (
                                                            cond (decide ((List.length ((((y7).1).2).2).1) = (List.length ((((y7).1).2).2).1)))
                                                              (
                                                              Option.bind (g_lodgelaw11_SoftRows_2 N N (y4).1 ((y4).2).1 ((((List.take (List.length ((((y4).2).2).1).1) ((((y4).2).2).1).1), (((((y4).2).2).1).2).1), (List.take (List.length ((((((y4).2).2).1).2).2).1) ((((((y4).2).2).1).2).2).1)), ()) (y7).1 (0 : Int)) fun y10 =>
                                                              Sum.elim (fun y11 =>
                                                                some (true, ()))
                                                                (fun y12 =>
                                                                some y12) y10)
                                                              (
                                                              none))
                                                            (
                                                            none))
                                                          (
                                                          none))
                                                        (
                                                        none))
                                                      (
                                                      none)))))
                                              (
                                              none))
                                            (
                                            none)))))
                                    (
                                    none))
                                  (
                                  none))
                                (
                                none))
                              (
                              none))
                            (
                            none))
                          (
                          none))
                        (
                        none))
                      (
                      none))
                    (
                    none))
                  (
                  none))
                (
                none))
              (
              none))
            (
            none))
          (
          none))))

abbrev c_lodgelaw11_SoftRows (N : Nat) : CallSpec := ⟨8, ps_lodgelaw11_SoftRows, rs_lodgelaw11_SoftRows, fun x => F_lodgelaw11_SoftRows N x.1 x.2.1 x.2.2.1⟩
abbrev l_lodgelaw11_SoftRows_3 (N : Nat) : LoopSpec := ⟨3, h_lodgelaw11_SoftRows_3, e_lodgelaw11_SoftRows_3, fun x => g_lodgelaw11_SoftRows_3 N N x.1 x.2.1 x.2.2.1 x.2.2.2.1 x.2.2.2.2.1 x.2.2.2.2.2.1 x.2.2.2.2.2.2.1⟩
abbrev l_lodgelaw11_SoftRows_2 (N : Nat) : LoopSpec := ⟨2, h_lodgelaw11_SoftRows_2, e_lodgelaw11_SoftRows_2, fun x => g_lodgelaw11_SoftRows_2 N N x.1 x.2.1 x.2.2.1 x.2.2.2.1 x.2.2.2.2.1⟩
abbrev l_lodgelaw11_SoftRows_1 (N : Nat) : LoopSpec := ⟨1, h_lodgelaw11_SoftRows_1, e_lodgelaw11_SoftRows_1, fun x => g_lodgelaw11_SoftRows_1 N N x.1 x.2.1 x.2.2.1 x.2.2.2.1 x.2.2.2.2.1⟩
abbrev l_lodgelaw11_SoftRows_0 (N : Nat) : LoopSpec := ⟨0, h_lodgelaw11_SoftRows_0, e_lodgelaw11_SoftRows_0, fun x => g_lodgelaw11_SoftRows_0 N N x.1 x.2.1 x.2.2.1 x.2.2.2.1 x.2.2.2.2.1⟩

theorem cs_lodgelaw11_SoftRows_ok (S : Nat → Addr) (N : Nat) : CallsOK Go.Proofs.Tryd.prog E S (cs_lodgelaw11_SoftRows N) :=
  .cons (F_lodgeref_SameInts_ok S N) (.cons (F_lodgelaw11_first_ok S N) (.cons (F_lodgeworld_Number_ok S N) (.cons (F_soft_ArgMax_ok S N) (.cons (F_soft_Sum_ok S N) (.cons (F_mat_Mul_ok S N) (.nil))))))
noncomputable abbrev b_lodgelaw11_SoftRows_3 : Code := (loopsOf b_lodgelaw11_SoftRows).getD 3 .skip
theorem g_lodgelaw11_SoftRows_3_ok (S : Nat → Addr) (N : Nat) : ∀ n x y, (fun (x : Val (slotsTy h_lodgelaw11_SoftRows_3)) => g_lodgelaw11_SoftRows_3 N n x.1 x.2.1 x.2.2.1 x.2.2.2.1 x.2.2.2.2.1 x.2.2.2.2.2.1 x.2.2.2.2.2.2.1) x = some y → LoopCon Go.Proofs.Tryd.prog E S b_lodgelaw11_SoftRows_3 (encSlots h_lodgelaw11_SoftRows_3 x) (encEx e_lodgelaw11_SoftRows_3 y).1 (encEx e_lodgelaw11_SoftRows_3 y).2 :=
  loop_spec E_ok mixed (cs_lodgelaw11_SoftRows_ok S N) (all := loopsOf b_lodgelaw11_SoftRows) (ls := []) (.nil) (i := 3) (by kernel_rfl) (inner_of (by kernel_rfl)) (head := h_lodgelaw11_SoftRows_3) (ex := e_lodgelaw11_SoftRows_3) (fun n (x : Val (slotsTy h_lodgelaw11_SoftRows_3)) => g_lodgelaw11_SoftRows_3 N n x.1 x.2.1 x.2.2.1 x.2.2.2.1 x.2.2.2.2.1 x.2.2.2.2.2.1 x.2.2.2.2.2.2.1) (fun _ => rfl) (fun n x => by kernel_rfl)
noncomputable abbrev b_lodgelaw11_SoftRows_2 : Code := (loopsOf b_lodgelaw11_SoftRows).getD 2 .skip
theorem g_lodgelaw11_SoftRows_2_ok (S : Nat → Addr) (N : Nat) : ∀ n x y, (fun (x : Val (slotsTy h_lodgelaw11_SoftRows_2)) => g_lodgelaw11_SoftRows_2 N n x.1 x.2.1 x.2.2.1 x.2.2.2.1 x.2.2.2.2.1) x = some y → LoopCon Go.Proofs.Tryd.prog E S b_lodgelaw11_SoftRows_2 (encSlots h_lodgelaw11_SoftRows_2 x) (encEx e_lodgelaw11_SoftRows_2 y).1 (encEx e_lodgelaw11_SoftRows_2 y).2 :=
  loop_spec E_ok mixed (cs_lodgelaw11_SoftRows_ok S N) (all := loopsOf b_lodgelaw11_SoftRows) (ls := [l_lodgelaw11_SoftRows_3 N]) (.cons (by kernel_rfl) (g_lodgelaw11_SoftRows_3_ok S N N) (.nil)) (i := 2) (by kernel_rfl) (inner_of (by kernel_rfl)) (head := h_lodgelaw11_SoftRows_2) (ex := e_lodgelaw11_SoftRows_2) (fun n (x : Val (slotsTy h_lodgelaw11_SoftRows_2)) => g_lodgelaw11_SoftRows_2 N n x.1 x.2.1 x.2.2.1 x.2.2.2.1 x.2.2.2.2.1) (fun _ => rfl) (fun n x => by kernel_rfl)
noncomputable abbrev b_lodgelaw11_SoftRows_1 : Code := (loopsOf b_lodgelaw11_SoftRows).getD 1 .skip
theorem g_lodgelaw11_SoftRows_1_ok (S : Nat → Addr) (N : Nat) : ∀ n x y, (fun (x : Val (slotsTy h_lodgelaw11_SoftRows_1)) => g_lodgelaw11_SoftRows_1 N n x.1 x.2.1 x.2.2.1 x.2.2.2.1 x.2.2.2.2.1) x = some y → LoopCon Go.Proofs.Tryd.prog E S b_lodgelaw11_SoftRows_1 (encSlots h_lodgelaw11_SoftRows_1 x) (encEx e_lodgelaw11_SoftRows_1 y).1 (encEx e_lodgelaw11_SoftRows_1 y).2 :=
  loop_spec E_ok mixed (cs_lodgelaw11_SoftRows_ok S N) (all := loopsOf b_lodgelaw11_SoftRows) (ls := []) (.nil) (i := 1) (by kernel_rfl) (inner_of (by kernel_rfl)) (head := h_lodgelaw11_SoftRows_1) (ex := e_lodgelaw11_SoftRows_1) (fun n (x : Val (slotsTy h_lodgelaw11_SoftRows_1)) => g_lodgelaw11_SoftRows_1 N n x.1 x.2.1 x.2.2.1 x.2.2.2.1 x.2.2.2.2.1) (fun _ => rfl) (fun n x => by kernel_rfl)
noncomputable abbrev b_lodgelaw11_SoftRows_0 : Code := (loopsOf b_lodgelaw11_SoftRows).getD 0 .skip
theorem g_lodgelaw11_SoftRows_0_ok (S : Nat → Addr) (N : Nat) : ∀ n x y, (fun (x : Val (slotsTy h_lodgelaw11_SoftRows_0)) => g_lodgelaw11_SoftRows_0 N n x.1 x.2.1 x.2.2.1 x.2.2.2.1 x.2.2.2.2.1) x = some y → LoopCon Go.Proofs.Tryd.prog E S b_lodgelaw11_SoftRows_0 (encSlots h_lodgelaw11_SoftRows_0 x) (encEx e_lodgelaw11_SoftRows_0 y).1 (encEx e_lodgelaw11_SoftRows_0 y).2 :=
  loop_spec E_ok mixed (cs_lodgelaw11_SoftRows_ok S N) (all := loopsOf b_lodgelaw11_SoftRows) (ls := []) (.nil) (i := 0) (by kernel_rfl) (inner_of (by kernel_rfl)) (head := h_lodgelaw11_SoftRows_0) (ex := e_lodgelaw11_SoftRows_0) (fun n (x : Val (slotsTy h_lodgelaw11_SoftRows_0)) => g_lodgelaw11_SoftRows_0 N n x.1 x.2.1 x.2.2.1 x.2.2.2.1 x.2.2.2.2.1) (fun _ => rfl) (fun n x => by kernel_rfl)
theorem F_lodgelaw11_SoftRows_ok (S : Nat → Addr) (N : Nat) : ∀ x y, (c_lodgelaw11_SoftRows N).g x = some y → FCon Go.Proofs.Tryd.prog E S 8 ps_lodgelaw11_SoftRows rs_lodgelaw11_SoftRows x y := by
  intro x y h
  exact fun_spec E_ok mixed (cs_lodgelaw11_SoftRows_ok S N) (f := 8) (fi := ⟨b_lodgelaw11_SoftRows, 198, Go.Proofs.Tryd.f8.results.toList⟩) (by kernel_rfl) (ls := [l_lodgelaw11_SoftRows_3 N, l_lodgelaw11_SoftRows_2 N, l_lodgelaw11_SoftRows_1 N, l_lodgelaw11_SoftRows_0 N]) (.cons (by kernel_rfl) (g_lodgelaw11_SoftRows_3_ok S N N) (.cons (by kernel_rfl) (g_lodgelaw11_SoftRows_2_ok S N N) (.cons (by kernel_rfl) (g_lodgelaw11_SoftRows_1_ok S N N) (.cons (by kernel_rfl) (g_lodgelaw11_SoftRows_0_ok S N N) (.nil))))) (by kernel_rfl) (ps := ps_lodgelaw11_SoftRows) (rs := rs_lodgelaw11_SoftRows) (Eq.trans (b := F_lodgelaw11_SoftRows N x.1 x.2.1 x.2.2.1) (by kernel_rfl) h)

end Go.Proofs.YtohkmbpdjigjdaaDoor.Lg
