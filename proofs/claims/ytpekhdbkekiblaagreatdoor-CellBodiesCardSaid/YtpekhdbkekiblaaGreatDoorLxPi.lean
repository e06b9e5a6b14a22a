/-
  Texts of the proof, one behind the other.
-/
import Derived.Test.YtpekhdbkekiblaaGreatDoorLxPh
import Derived.IntWalk

/-
  The functions of the seat's program, as plain functions.
-/
namespace Go.Proofs.YtpekhdbkekiblaaGreatDoor.Lx
open Go Go.Eng Go.Proofs
set_option maxRecDepth 100000

/-! lodge/tens.Wide -/

abbrev ps_tens_Wide : List Ty := [(.int .i64)]
abbrev rs_tens_Wide : List Slot := [.data (.int .i64)]
abbrev cs_tens_Wide (N : Nat) : List (CallSpec E) := []
noncomputable abbrev b_tens_Wide : Code := ((Go.Proofs.Tryz.f168.body).getD .skip)

def F_tens_Wide (N : Nat) (n_0 : Int) : Option (Unit × (Int × Unit)) :=
  some ((), ((wi64 (wi32 (wu32 (wu64 n_0)))), ()))

abbrev c_tens_Wide (N : Nat) : CallSpec E := ⟨168, ps_tens_Wide, rs_tens_Wide, fun x => F_tens_Wide N x.2.1⟩

theorem cs_tens_Wide_ok (S : Ini) (N : Nat) : CallsOK Go.Proofs.Tryz.prog E S (cs_tens_Wide N) :=
  .nil
theorem F_tens_Wide_ok (S : Ini) (N : Nat) : ∀ x y, (c_tens_Wide N).g x = some y → FCon Go.Proofs.Tryz.prog E S 168 ps_tens_Wide rs_tens_Wide x y := by
  intro x y h
  exact fun_specJ E_ok mixed (cs_tens_Wide_ok S N) (f := 168) (fi := ⟨b_tens_Wide, 8, Go.Proofs.Tryz.f168.results.toList⟩) (by kernel_rfl) (ls := []) (.nil) (js := []) (by kernel_rfl) (ps := ps_tens_Wide) (rs := rs_tens_Wide) (Eq.trans (b := F_tens_Wide N x.2.1) (by kernel_rfl) h)

/-! lodge/tens.Take -/

abbrev ps_tens_Take : List Ty := [(.sl (.int .u8)), (.int .i64), .bool]
abbrev rs_tens_Take : List Slot := [.data (.int .i64)]
abbrev cs_tens_Take (N : Nat) : List (CallSpec E) := [c_tens_Wide N]
noncomputable abbrev b_tens_Take : Code := ((Go.Proofs.Tryz.f150.body).getD .skip)

def F_tens_Take (N : Nat) (b_0 : List Int) (i_1 : Int) (wide_2 : Bool) : Option (Unit × (Int × Unit)) :=
  cond wide_2
    (
    cond (decide ((0 : Int) ≤ (wi64 ((4 : Int) * i_1))))
      (
      cond (decide ((Int.toNat (wi64 ((4 : Int) * i_1))) ≤ (List.length b_0)))
        (
        cond (decide ((List.length b_0) ≤ (List.length b_0)))
          (
          cond (decide (0 < (List.length (List.take ((List.length b_0) - (Int.toNat (wi64 ((4 : Int) * i_1)))) (List.drop (Int.toNat (wi64 ((4 : Int) * i_1))) b_0)))))
            (
            cond (decide (1 < (List.length (List.take ((List.length b_0) - (Int.toNat (wi64 ((4 : Int) * i_1)))) (List.drop (Int.toNat (wi64 ((4 : Int) * i_1))) b_0)))))
              (
              cond (decide (2 < (List.length (List.take ((List.length b_0) - (Int.toNat (wi64 ((4 : Int) * i_1)))) (List.drop (Int.toNat (wi64 ((4 : Int) * i_1))) b_0)))))
                (
                cond (decide (3 < (List.length (List.take ((List.length b_0) - (Int.toNat (wi64 ((4 : Int) * i_1)))) (List.drop (Int.toNat (wi64 ((4 : Int) * i_1))) b_0)))))
                  (
                  Option.bind (F_tens_Wide N (Go.Eng.bitsI Go.BinOp.or Go.IntKind.i64 (Go.Eng.bitsI Go.BinOp.or Go.IntKind.i64 (Go.Eng.bitsI Go.BinOp.or Go.IntKind.i64 (wi64 (List.getD (List.take ((List.length b_0) - (Int.toNat (wi64 ((4 : Int) * i_1)))) (List.drop (Int.toNat (wi64 ((4 : Int) * i_1))) b_0)) 0 (0 : Int))) (Go.Eng.shlI Go.IntKind.i64 (wi64 (List.getD (List.take ((List.length b_0) - (Int.toNat (wi64 ((4 : Int) * i_1)))) (List.drop (Int.toNat (wi64 ((4 : Int) * i_1))) b_0)) 1 (0 : Int))) (8 : Int))) (Go.Eng.shlI Go.IntKind.i64 (wi64 (List.getD (List.take ((List.length b_0) - (Int.toNat (wi64 ((4 : Int) * i_1)))) (List.drop (Int.toNat (wi64 ((4 : Int) * i_1))) b_0)) 2 (0 : Int))) (16 : Int))) (Go.Eng.shlI Go.IntKind.i64 (wi64 (List.getD (List.take ((List.length b_0) - (Int.toNat (wi64 ((4 : Int) * i_1)))) (List.drop (Int.toNat (wi64 ((4 : Int) * i_1))) b_0)) 3 (0 : Int))) (24 : Int)))) fun y0 =>
                  some ((), (y0).2))
                  (
                  none))
                (
                none))
              (
              none))
            (
            none))
          (
          none))
        (
        none))
      (
      none))
    (
    cond (decide ((0 : Int) ≤ i_1))
      (
      cond (decide ((Int.toNat i_1) < (List.length b_0)))
        (
        some ((), ((wi64 (wi8 (List.getD b_0 (Int.toNat i_1) (0 : Int)))), ())))
        (
        none))
      (
      none))

abbrev c_tens_Take (N : Nat) : CallSpec E := ⟨150, ps_tens_Take, rs_tens_Take, fun x => F_tens_Take N x.2.1 x.2.2.1 x.2.2.2.1⟩

theorem cs_tens_Take_ok (S : Ini) (N : Nat) : CallsOK Go.Proofs.Tryz.prog E S (cs_tens_Take N) :=
  .cons (F_tens_Wide_ok S N) (.nil)
theorem F_tens_Take_ok (S : Ini) (N : Nat) : ∀ x y, (c_tens_Take N).g x = some y → FCon Go.Proofs.Tryz.prog E S 150 ps_tens_Take rs_tens_Take x y := by
  intro x y h
  exact fun_specJ E_ok mixed (cs_tens_Take_ok S N) (f := 150) (fi := ⟨b_tens_Take, 41, Go.Proofs.Tryz.f150.results.toList⟩) (by kernel_rfl) (ls := []) (.nil) (js := []) (by kernel_rfl) (ps := ps_tens_Take) (rs := rs_tens_Take) (Eq.trans (b := F_tens_Take N x.2.1 x.2.2.1 x.2.2.2.1) (by kernel_rfl) h)

/-! lodge/tens.Of -/

abbrev ps_tens_Of : List Ty := [(.st (.pair (.sl (.int .i64)) .bool)), (.sl (.int .u8))]
abbrev rs_tens_Of : List Slot := [.ag [.sl (.int .i64), .d .bool, .sl (.int .i64)], .data .err]
abbrev cs_tens_Of (N : Nat) : List (CallSpec E) := [c_shape_Valid N, c_shape_Bytes N, c_tens_Zero N, c_tens_Take N]
noncomputable abbrev b_tens_Of : Code := ((Go.Proofs.Tryz.f112.body).getD .skip)

abbrev h_tens_Of_0 : List Slot := [.dead, .data (.sl (.int .u8)), .box [.d (.st (.pair (.sl (.int .i64)) .bool))], .dead, .box [.sl (.int .i64), .d .bool, .sl (.int .i64)], .dead, .dead, .dead, .box [.sl (.int .i64), .d .bool, .sl (.int .i64)], .data .err, .dead, .dead, .dead, .dead, .dead, .dead, .dead, .dead, .dead, .dead, .dead, .dead, .dead, .dead, .dead, .dead, .dead, .dead, .dead, .dead, .dead, .dead, .dead, .dead, .dead, .dead, .dead, .dead, .dead, .dead, .data (.int .i64), .data (.int .i64), .dead, .dead, .dead, .dead, .dead, .dead, .dead, .dead, .dead, .dead, .dead, .dead, .dead, .dead]
abbrev e_tens_Of_0 : List (AX × List Slot) := [(AX.exit 1, [.dead, .dead, .dead, .dead, .box [.sl (.int .i64), .d .bool, .sl (.int .i64)], .dead, .dead, .dead, .box [.sl (.int .i64), .d .bool, .sl (.int .i64)], .data .err, .dead, .dead, .dead, .dead, .dead, .dead, .dead, .dead, .dead, .dead, .dead, .dead, .dead, .dead, .dead, .dead, .dead, .dead, .dead, .dead, .dead, .dead, .dead, .dead, .dead, .dead, .dead, .dead, .dead, .dead, .dead, .dead, .dead, .dead, .dead, .dead, .dead, .dead, .dead, .dead, .dead, .dead, .dead, .dead, .dead, .dead])]
def g_tens_Of_0 (N : Nat) : Nat → List Int → ((List Int × Bool) × Unit) → (List Int × (Bool × (List Int × Unit))) → (List Int × (Bool × (List Int × Unit))) → Er → Int → Int → Option (Unit × ((List Int × (Bool × (List Int × Unit))) × ((List Int × (Bool × (List Int × Unit))) × (Er × Unit))))
  | 0, _, _, _, _, _, _, _ => none
  | n + 1, b_1, d_2, t_4, t_8, err_9, t_40, t_41 =>
    cond (decide (t_41 < t_40))
      (
      Option.bind (F_tens_Take N b_1 t_41 ((d_2).1).2) fun y4 =>
      cond (decide ((0 : Int) ≤ t_41))
        (
        cond (decide ((Int.toNat t_41) < (List.length (((t_8).2).2).1)))
          (
          cond (decide (((0 : Nat) + (Int.toNat t_41)) < (List.length (((t_8).2).2).1)))
            (
            cond (decide ((List.length (t_4).1) = (List.length (t_4).1)))
              (
              cond (decide ((List.length (((t_4).2).2).1) = (List.length (((t_4).2).2).1)))
                (
                cond (decide ((List.length (t_8).1) = (List.length (t_8).1)))
                  (
                  cond (decide ((List.length (((t_8).2).2).1) = (List.length (List.set (((t_8).2).2).1 ((0 : Nat) + (Int.toNat t_41)) ((y4).2).1))))
                    (
                    (g_tens_Of_0 N n b_1 d_2 t_4 ((t_8).1, (((t_8).2).1, ((List.set (((t_8).2).2).1 ((0 : Nat) + (Int.toNat t_41)) ((y4).2).1), ()))) err_9 t_40 (wi64 (t_41 + (1 : Int)))))
                    (
                    none))
                  (
                  none))
                (
                none))
              (
              none))
            (
            none))
          (
          none))
        (
        none))
      (
      cond (decide ((List.length (t_4).1) = (List.length (t_4).1)))
        (
        cond (decide ((List.length (((t_4).2).2).1) = (List.length (((t_4).2).2).1)))
          (
          cond (decide ((List.length (t_8).1) = (List.length (t_8).1)))
            (
            cond (decide ((List.length (((t_8).2).2).1) = (List.length (((t_8).2).2).1)))
              (
              some ((), (t_4, (t_8, (err_9, ())))))
              (
              none))
            (
            none))
          (
          none))
        (
        none))

def F_tens_Of (N : Nat) (d_0 : (List Int × Bool)) (b_1 : List Int) : Option (Unit × ((List Int × (Bool × (List Int × Unit))) × (Er × Unit))) :=
  Option.bind (F_shape_Valid N d_0) fun y0 =>
  cond (Bool.not (Go.Eng.Er.isNil ((y0).2).1))
    (
    some ((), ((([] : List Int), (false, (([] : List Int), ()))), (y0).2)))
    (
    Option.bind (F_shape_Bytes N d_0) fun y1 =>
    cond (decide ((Nat.cast (List.length b_1) : Int) < ((y1).2).1))
      (
      some ((), ((([] : List Int), (false, (([] : List Int), ()))), ((Go.Eng.Er.s ErrEnd), ()))))
      (
      cond (decide (((y1).2).1 < (Nat.cast (List.length b_1) : Int)))
        (
        some ((), ((([] : List Int), (false, (([] : List Int), ()))), ((Go.Eng.Er.s ErrMany), ()))))
        (
        Option.bind (F_tens_Zero N d_0) fun y2 =>
        cond (decide ((List.length (((y2).2).1).1) = (List.length (((y2).2).1).1)))
          (
          cond (decide ((List.length (((((y2).2).1).2).2).1) = (List.length (((((y2).2).1).2).2).1)))
            (
            Option.bind (g_tens_Of_0 N N b_1 (d_0, ()) (([] : List Int), (false, (([] : List Int), ()))) ((y2).2).1 (((y2).2).2).1 (Nat.cast (List.length (((((y2).2).1).2).2).1) : Int) (0 : Int)) fun y3 =>
            cond (decide ((List.length ((((y3).2).2).1).1) = (List.length ((((y3).2).2).1).1)))
              (
              cond (decide ((List.length ((((((y3).2).2).1).2).2).1) = (List.length ((((((y3).2).2).1).2).2).1)))
                (
                some ((), ((y3).2).2))
                (
                none))
              (
              none))
            (
            none))
          (
          none))))

abbrev c_tens_Of (N : Nat) : CallSpec E := ⟨112, ps_tens_Of, rs_tens_Of, fun x => F_tens_Of N x.2.1 x.2.2.1⟩
abbrev l_tens_Of_0 (N : Nat) : LoopSpec E [] := ⟨0, h_tens_Of_0, e_tens_Of_0, fun x => g_tens_Of_0 N N x.2.1 x.2.2.1 x.2.2.2.1 x.2.2.2.2.1 x.2.2.2.2.2.1 x.2.2.2.2.2.2.1 x.2.2.2.2.2.2.2.1⟩

theorem cs_tens_Of_ok (S : Ini) (N : Nat) : CallsOK Go.Proofs.Tryz.prog E S (cs_tens_Of N) :=
  .cons (F_shape_Valid_ok S N) (.cons (F_shape_Bytes_ok S N) (.cons (F_tens_Zero_ok S N) (.cons (F_tens_Take_ok S N) (.nil))))
noncomputable abbrev b_tens_Of_0 : Code := (loopsOf b_tens_Of).getD 0 .skip
theorem g_tens_Of_0_ok (S : Ini) (N : Nat) : ∀ n x y, (fun (x : StV E [] h_tens_Of_0) => g_tens_Of_0 N n x.2.1 x.2.2.1 x.2.2.2.1 x.2.2.2.2.1 x.2.2.2.2.2.1 x.2.2.2.2.2.2.1 x.2.2.2.2.2.2.2.1) x = some y → LoopCon Go.Proofs.Tryz.prog E S b_tens_Of_0 (encSlots E [] h_tens_Of_0 x) (encEx E [] e_tens_Of_0 y).1 (encEx E [] e_tens_Of_0 y).2 :=
  loop_specJ E_ok mixed (E_ok.ks 112) (cs_tens_Of_ok S N) (all := loopsOf b_tens_Of) (ls := []) (.nil) (js := []) (i := 0) (by kernel_rfl) (inner_of (by kernel_rfl)) (head := h_tens_Of_0) (ex := e_tens_Of_0) (fun n (x : StV E [] h_tens_Of_0) => g_tens_Of_0 N n x.2.1 x.2.2.1 x.2.2.2.1 x.2.2.2.2.1 x.2.2.2.2.2.1 x.2.2.2.2.2.2.1 x.2.2.2.2.2.2.2.1) (fun _ => rfl) (fun n x => by kernel_rfl)
theorem F_tens_Of_ok (S : Ini) (N : Nat) : ∀ x y, (c_tens_Of N).g x = some y → FCon Go.Proofs.Tryz.prog E S 112 ps_tens_Of rs_tens_Of x y := by
  intro x y h
  exact fun_specJ E_ok mixed (cs_tens_Of_ok S N) (f := 112) (fi := ⟨b_tens_Of, 56, Go.Proofs.Tryz.f112.results.toList⟩) (by kernel_rfl) (ls := [l_tens_Of_0 N]) (.cons (by kernel_rfl) (g_tens_Of_0_ok S N N) (.nil)) (js := []) (by kernel_rfl) (ps := ps_tens_Of) (rs := rs_tens_Of) (Eq.trans (b := F_tens_Of N x.2.1 x.2.2.1) (by kernel_rfl) h)

/-! lodge/tens.Read -/

abbrev ps_tens_Read : List Ty := [(.sl (.int .u8))]
abbrev rs_tens_Read : List Slot := [.ag [.sl (.int .i64), .d .bool, .sl (.int .i64)], .data (.int .i64), .data .err]
abbrev cs_tens_Read (N : Nat) : List (CallSpec E) := [c_shape_Valid N, c_shape_Bytes N, c_tens_Of N]
noncomputable abbrev b_tens_Read : Code := ((Go.Proofs.Tryz.f152.body).getD .skip)

abbrev h_tens_Read_0 : List Slot := [.data (.sl (.int .u8)), .dead, .box [.sl (.int .i64), .d .bool, .sl (.int .i64)], .dead, .dead, .dead, .box [.sl (.int .i64), .d .bool], .data (.int .i64), .dead, .dead, .dead, .dead, .dead, .dead, .dead, .dead, .dead, .dead, .dead, .dead, .dead, .dead, .dead, .dead, .dead, .dead, .dead, .dead, .dead, .dead, .dead, .dead, .dead, .dead, .data (.int .i64), .data (.int .i64), .dead, .dead, .dead, .dead, .dead, .dead, .dead, .dead, .dead, .dead, .dead, .dead, .dead, .dead, .dead, .dead, .dead, .dead, .dead, .dead, .dead, .dead, .dead, .dead, .dead, .dead, .dead, .dead, .dead, .dead, .dead, .dead, .dead, .dead, .dead, .dead, .dead, .dead, .dead, .dead, .dead, .dead, .dead, .dead, .dead, .dead, .dead, .dead, .dead, .dead, .dead, .dead, .dead, .dead, .dead, .dead, .dead]
abbrev e_tens_Read_0 : List (AX × List Slot) := [(AX.exit 0, [.data (.sl (.int .u8)), .dead, .box [.sl (.int .i64), .d .bool, .sl (.int .i64)], .dead, .dead, .dead, .box [.sl (.int .i64), .d .bool], .data (.int .i64), .dead, .dead, .dead, .dead, .dead, .dead, .dead, .dead, .dead, .dead, .dead, .dead, .dead, .dead, .dead, .dead, .dead, .dead, .dead, .dead, .dead, .dead, .dead, .dead, .dead, .dead, .dead, .dead, .dead, .dead, .dead, .dead, .dead, .dead, .dead, .dead, .dead, .dead, .dead, .dead, .dead, .dead, .dead, .dead, .dead, .dead, .dead, .dead, .dead, .dead, .dead, .dead, .dead, .dead, .dead, .dead, .dead, .dead, .dead, .dead, .dead, .dead, .dead, .dead, .dead, .dead, .dead, .dead, .dead, .dead, .dead, .dead, .dead, .dead, .dead, .dead, .dead, .dead, .dead, .dead, .dead, .dead, .dead, .dead, .dead]), (AX.ret, [.dead, .dead, .box [.sl (.int .i64), .d .bool, .sl (.int .i64)], .data (.int .i64), .data .err, .dead, .dead, .dead, .dead, .dead, .dead, .dead, .dead, .dead, .dead, .dead, .dead, .dead, .dead, .dead, .dead, .dead, .dead, .dead, .dead, .dead, .dead, .dead, .dead, .dead, .dead, .dead, .dead, .dead, .dead, .dead, .dead, .dead, .dead, .dead, .dead, .dead, .dead, .dead, .dead, .dead, .dead, .dead, .dead, .dead, .dead, .dead, .dead, .dead, .dead, .dead, .dead, .dead, .dead, .dead, .dead, .dead, .dead, .dead, .dead, .dead, .dead, .dead, .dead, .dead, .dead, .dead, .dead, .dead, .dead, .dead, .dead, .dead, .dead, .dead, .dead, .dead, .dead, .dead, .dead, .dead, .dead, .dead, .dead, .dead, .dead, .dead, .dead])]
def g_tens_Read_0 (N : Nat) : Nat → List Int → (List Int × (Bool × (List Int × Unit))) → (List Int × (Bool × Unit)) → Int → Int → Int → Option (Sum (Unit × (List Int × ((List Int × (Bool × (List Int × Unit))) × ((List Int × (Bool × Unit)) × (Int × Unit))))) (Unit × ((List Int × (Bool × (List Int × Unit))) × (Int × (Er × Unit)))))
  | 0, _, _, _, _, _, _ => none
  | n + 1, b_0, t_2, d_6, at_7, t_34, t_35 =>
    cond (decide (t_35 < t_34))
      (
      cond (decide ((Nat.cast (List.length b_0) : Int) < (wi64 (at_7 + (2 : Int)))))
        (
        some (Sum.inr ((), ((([] : List Int), (false, (([] : List Int), ()))), ((0 : Int), ((Go.Eng.Er.s ErrEnd), ()))))))
        (
        cond (decide ((0 : Int) ≤ at_7))
          (
          cond (decide ((Int.toNat at_7) < (List.length b_0)))
            (
            cond (decide ((0 : Int) ≤ (wi64 (at_7 + (1 : Int)))))
              (
              cond (decide ((Int.toNat (wi64 (at_7 + (1 : Int)))) < (List.length b_0)))
                (
                cond (decide (((0 : Nat) + (List.length (d_6).1)) = (List.length (d_6).1)))
                  (
                  cond (decide ((((List.length (d_6).1) + 1) * (8 + (1 : Nat))) ≤ Go.Eng.most))
                    (
                    cond (decide ((List.length (t_2).1) = (List.length (t_2).1)))
                      (
                      cond (decide ((List.length (((t_2).2).2).1) = (List.length (((t_2).2).2).1)))
                        (
                        cond (decide (((List.length (d_6).1) + 1) = (List.length ((List.take (List.length (d_6).1) (d_6).1) ++ ((Go.Eng.bitsI Go.BinOp.or Go.IntKind.i64 (wi64 (List.getD b_0 (Int.toNat at_7) (0 : Int))) (Go.Eng.shlI Go.IntKind.i64 (wi64 (List.getD b_0 (Int.toNat (wi64 (at_7 + (1 : Int)))) (0 : Int))) (8 : Int))) :: ([] : List Int))))))
                          (
                          (g_tens_Read_0 N n b_0 t_2 (((List.take (List.length (d_6).1) (d_6).1) ++ ((Go.Eng.bitsI Go.BinOp.or Go.IntKind.i64 (wi64 (List.getD b_0 (Int.toNat at_7) (0 : Int))) (Go.Eng.shlI Go.IntKind.i64 (wi64 (List.getD b_0 (Int.toNat (wi64 (at_7 + (1 : Int)))) (0 : Int))) (8 : Int))) :: ([] : List Int))), (d_6).2) (wi64 (at_7 + (2 : Int))) t_34 (wi64 (t_35 + (1 : Int)))))
                          (
                          none))
                        (
                        none))
                      (
                      none))
                    (
                    none))
                  (
                  none))
                (
                none))
              (
              none))
            (
            none))
          (
          none)))
      (
      cond (decide ((List.length (t_2).1) = (List.length (t_2).1)))
        (
        cond (decide ((List.length (((t_2).2).2).1) = (List.length (((t_2).2).2).1)))
          (
          cond (decide ((List.length (d_6).1) = (List.length (d_6).1)))
            (
            some (Sum.inl ((), (b_0, (t_2, (d_6, (at_7, ())))))))
            (
            none))
          (
          none))
        (
        none))

def F_tens_Read (N : Nat) (b_0 : List Int) : Option (Unit × ((List Int × (Bool × (List Int × Unit))) × (Int × (Er × Unit)))) :=
  cond (decide ((Nat.cast (List.length b_0) : Int) = (0 : Int)))
    (
    some ((), ((([] : List Int), (false, (([] : List Int), ()))), ((0 : Int), ((Go.Eng.Er.s ErrEnd), ())))))
    (
    cond (decide (0 < (List.length b_0)))
      (
      cond (decide ((16 : Int) ≤ (List.getD b_0 0 (0 : Int))))
        (
        some ((), ((([] : List Int), (false, (([] : List Int), ()))), ((0 : Int), ((Go.Eng.Er.s ErrKind), ())))))
        (
        cond (decide (0 < (List.length b_0)))
          (
          cond (decide (0 < (List.length b_0)))
            (
            Option.bind (g_tens_Read_0 N N b_0 (([] : List Int), (false, (([] : List Int), ()))) (([] : List Int), ((decide (@Ne Int (Go.Eng.bitsI Go.BinOp.and Go.IntKind.u8 (List.getD b_0 0 (0 : Int)) (8 : Int)) (0 : Int))), ())) (1 : Int) (Go.Eng.bitsI Go.BinOp.andNot Go.IntKind.i64 (wi64 (List.getD b_0 0 (0 : Int))) (8 : Int)) (0 : Int)) fun y0 =>
            Sum.elim (fun y1 =>
              cond (decide (((0 : Nat) + (List.length (((((y1).2).2).2).1).1)) ≤ (List.length (((((y1).2).2).2).1).1)))
                (
                Option.bind (F_shape_Valid N ((List.take (List.length (((((y1).2).2).2).1).1) (((((y1).2).2).2).1).1), ((((((y1).2).2).2).1).2).1)) fun y2 =>
                cond (Bool.not (Go.Eng.Er.isNil ((y2).2).1))
                  (
                  some ((), ((([] : List Int), (false, (([] : List Int), ()))), ((0 : Int), (y2).2))))
                  (
                  cond (decide (((0 : Nat) + (List.length (((((y1).2).2).2).1).1)) ≤ (List.length (((((y1).2).2).2).1).1)))
                    (
                    Option.bind (F_shape_Bytes N ((List.take (List.length (((((y1).2).2).2).1).1) (((((y1).2).2).2).1).1), ((((((y1).2).2).2).1).2).1)) fun y3 =>
                    cond (decide ((Nat.cast (List.length ((y1).2).1) : Int) < (wi64 ((((((y1).2).2).2).2).1 + ((y3).2).1))))
                      (
                      some ((), ((([] : List Int), (false, (([] : List Int), ()))), ((0 : Int), ((Go.Eng.Er.s ErrEnd), ())))))
                      (
                      cond (decide ((0 : Int) ≤ (((((y1).2).2).2).2).1))
                        (
                        cond (decide ((0 : Int) ≤ (wi64 ((((((y1).2).2).2).2).1 + ((y3).2).1))))
                          (
                          cond (decide ((Int.toNat (((((y1).2).2).2).2).1) ≤ (Int.toNat (wi64 ((((((y1).2).2).2).2).1 + ((y3).2).1)))))
                            (
                            cond (decide ((Int.toNat (wi64 ((((((y1).2).2).2).2).1 + ((y3).2).1))) ≤ (List.length ((y1).2).1)))
                              (
                              cond (decide (((0 : Nat) + (List.length (((((y1).2).2).2).1).1)) ≤ (List.length (((((y1).2).2).2).1).1)))
                                (
                                Option.bind (F_tens_Of N ((List.take (List.length (((((y1).2).2).2).1).1) (((((y1).2).2).2).1).1), ((((((y1).2).2).2).1).2).1) (List.take ((Int.toNat (wi64 ((((((y1).2).2).2).2).1 + ((y3).2).1))) - (Int.toNat (((((y1).2).2).2).2).1)) (List.drop (Int.toNat (((((y1).2).2).2).2).1) ((y1).2).1))) fun y4 =>
                                cond (decide ((List.length (((y4).2).1).1) = (List.length (((y4).2).1).1)))
                                  (
                                  cond (decide ((List.length (((((y4).2).1).2).2).1) = (List.length (((((y4).2).1).2).2).1)))
                                    (
                                    some ((), (((y4).2).1, ((wi64 ((((((y1).2).2).2).2).1 + ((y3).2).1)), ((y4).2).2))))
                                    (
                                    none))
                                  (
                                  none))
                                (
                                none))
                              (
                              none))
                            (
                            none))
                          (
                          none))
                        (
                        none)))
                    (
                    none)))
                (
                none))
              (fun y5 =>
              cond (decide ((List.length (((y5).2).1).1) = (List.length (((y5).2).1).1)))
                (
                cond (decide ((List.length (((((y5).2).1).2).2).1) = (List.length (((((y5).2).1).2).2).1)))
                  (
                  some ((), (y5).2))
                  (
                  none))
                (
                none)) y0)
            (
            none))
          (
          none)))
      (
      none))

abbrev c_tens_Read (N : Nat) : CallSpec E := ⟨152, ps_tens_Read, rs_tens_Read, fun x => F_tens_Read N x.2.1⟩
abbrev l_tens_Read_0 (N : Nat) : LoopSpec E [] := ⟨0, h_tens_Read_0, e_tens_Read_0, fun x => g_tens_Read_0 N N x.2.1 x.2.2.1 x.2.2.2.1 x.2.2.2.2.1 x.2.2.2.2.2.1 x.2.2.2.2.2.2.1⟩

theorem cs_tens_Read_ok (S : Ini) (N : Nat) : CallsOK Go.Proofs.Tryz.prog E S (cs_tens_Read N) :=
  .cons (F_shape_Valid_ok S N) (.cons (F_shape_Bytes_ok S N) (.cons (F_tens_Of_ok S N) (.nil)))
noncomputable abbrev b_tens_Read_0 : Code := (loopsOf b_tens_Read).getD 0 .skip
theorem g_tens_Read_0_ok (S : Ini) (N : Nat) : ∀ n x y, (fun (x : StV E [] h_tens_Read_0) => g_tens_Read_0 N n x.2.1 x.2.2.1 x.2.2.2.1 x.2.2.2.2.1 x.2.2.2.2.2.1 x.2.2.2.2.2.2.1) x = some y → LoopCon Go.Proofs.Tryz.prog E S b_tens_Read_0 (encSlots E [] h_tens_Read_0 x) (encEx E [] e_tens_Read_0 y).1 (encEx E [] e_tens_Read_0 y).2 :=
  loop_specJ E_ok mixed (E_ok.ks 152) (cs_tens_Read_ok S N) (all := loopsOf b_tens_Read) (ls := []) (.nil) (js := []) (i := 0) (by kernel_rfl) (inner_of (by kernel_rfl)) (head := h_tens_Read_0) (ex := e_tens_Read_0) (fun n (x : StV E [] h_tens_Read_0) => g_tens_Read_0 N n x.2.1 x.2.2.1 x.2.2.2.1 x.2.2.2.2.1 x.2.2.2.2.2.1 x.2.2.2.2.2.2.1) (fun _ => rfl) (fun n x => by kernel_rfl)
theorem F_tens_Read_ok (S : Ini) (N : Nat) : ∀ x y, (c_tens_Read N).g x = some y → FCon Go.Proofs.Tryz.prog E S 152 ps_tens_Read rs_tens_Read x y := by
  intro x y h
  exact fun_specJ E_ok mixed (cs_tens_Read_ok S N) (f := 152) (fi := ⟨b_tens_Read, 93, Go.Proofs.Tryz.f152.results.toList⟩) (by kernel_rfl) (ls := [l_tens_Read_0 N]) (.cons (by kernel_rfl) (g_tens_Read_0_ok S N N) (.nil)) (js := []) (by kernel_rfl) (ps := ps_tens_Read) (rs := rs_tens_Read) (Eq.trans (b := F_tens_Read N x.2.1) (by kernel_rfl) h)

/-! (*lodge/cell.reader).tensor -/

abbrev ps_cell_reader_tensor : List Ty := [(.hd 9)]
abbrev rs_cell_reader_tensor : List Slot := [.ag [.sl (.int .i64), .d .bool, .sl (.int .i64)]]
abbrev cs_cell_reader_tensor (N : Nat) : List (CallSpec E) := [c_tens_Read N]
noncomputable abbrev b_cell_reader_tensor : Code := ((Go.Proofs.Tryz.f117.body).getD .skip)

def F_cell_reader_tensor (N : Nat) (T9 : List (List Int × (Er × Unit))) (r_0 : Option Nat) : Option ((List (List Int × (Er × Unit)) × Unit) × ((List Int × (Bool × (List Int × Unit))) × Unit)) :=
  cond (@Option.isSome Nat r_0)
    (
    cond (Bool.not (Go.Eng.Er.isNil (((List.getD T9 (@Option.getD Nat r_0 (0 : Nat)) (([] : List Int), (Go.Eng.Er.nil, ())))).2).1))
      (
      some ((T9, ()), ((([] : List Int), (false, (([] : List Int), ()))), ())))
      (
      cond (@Option.isSome Nat r_0)
        (
        Option.bind (F_tens_Read N ((List.getD T9 (@Option.getD Nat r_0 (0 : Nat)) (([] : List Int), (Go.Eng.Er.nil, ())))).1) fun y0 =>
        cond (@Option.isSome Nat r_0)
          (
          cond (@Option.isSome Nat r_0)
            (
            cond (decide ((0 : Int) ≤ (((y0).2).2).1))
              (
              cond (decide ((Int.toNat (((y0).2).2).1) ≤ (List.length ((List.getD (List.set T9 (@Option.getD Nat r_0 (0 : Nat)) (((List.getD T9 (@Option.getD Nat r_0 (0 : Nat)) (([] : List Int), (Go.Eng.Er.nil, ())))).1, (((((y0).2).2).2).1, (((List.getD T9 (@Option.getD Nat r_0 (0 : Nat)) (([] : List Int), (Go.Eng.Er.nil, ())))).2).2))) (@Option.getD Nat r_0 (0 : Nat)) (([] : List Int), (Go.Eng.Er.nil, ())))).1)))
                (
                cond (decide ((List.length ((List.getD (List.set T9 (@Option.getD Nat r_0 (0 : Nat)) (((List.getD T9 (@Option.getD Nat r_0 (0 : Nat)) (([] : List Int), (Go.Eng.Er.nil, ())))).1, (((((y0).2).2).2).1, (((List.getD T9 (@Option.getD Nat r_0 (0 : Nat)) (([] : List Int), (Go.Eng.Er.nil, ())))).2).2))) (@Option.getD Nat r_0 (0 : Nat)) (([] : List Int), (Go.Eng.Er.nil, ())))).1) ≤ (List.length ((List.getD (List.set T9 (@Option.getD Nat r_0 (0 : Nat)) (((List.getD T9 (@Option.getD Nat r_0 (0 : Nat)) (([] : List Int), (Go.Eng.Er.nil, ())))).1, (((((y0).2).2).2).1, (((List.getD T9 (@Option.getD Nat r_0 (0 : Nat)) (([] : List Int), (Go.Eng.Er.nil, ())))).2).2))) (@Option.getD Nat r_0 (0 : Nat)) (([] : List Int), (Go.Eng.Er.nil, ())))).1)))
                  (
                  cond (@Option.isSome Nat r_0)
                    (
                    cond (decide ((List.length (((y0).2).1).1) = (List.length (((y0).2).1).1)))
                      (
                      cond (decide ((List.length (((((y0).2).1).2).2).1) = (List.length (((((y0).2).1).2).2).1)))
                        (
                        some (((List.set (List.set T9 (@Option.getD Nat r_0 (0 : Nat)) (((List.getD T9 (@Option.getD Nat r_0 (0 : Nat)) (([] : List Int), (Go.Eng.Er.nil, ())))).1, (((((y0).2).2).2).1, (((List.getD T9 (@Option.getD Nat r_0 (0 : Nat)) (([] : List Int), (Go.Eng.Er.nil, ())))).2).2))) (@Option.getD Nat r_0 (0 : Nat)) ((List.take ((List.length ((List.getD (List.set T9 (@Option.getD Nat r_0 (0 : Nat)) (((List.getD T9 (@Option.getD Nat r_0 (0 : Nat)) (([] : List Int), (Go.Eng.Er.nil, ())))).1, (((((y0).2).2).2).1, (((List.getD T9 (@Option.getD Nat r_0 (0 : Nat)) (([] : List Int), (Go.Eng.Er.nil, ())))).2).2))) (@Option.getD Nat r_0 (0 : Nat)) (([] : List Int), (Go.Eng.Er.nil, ())))).1) - (Int.toNat (((y0).2).2).1)) (List.drop (Int.toNat (((y0).2).2).1) ((List.getD (List.set T9 (@Option.getD Nat r_0 (0 : Nat)) (((List.getD T9 (@Option.getD Nat r_0 (0 : Nat)) (([] : List Int), (Go.Eng.Er.nil, ())))).1, (((((y0).2).2).2).1, (((List.getD T9 (@Option.getD Nat r_0 (0 : Nat)) (([] : List Int), (Go.Eng.Er.nil, ())))).2).2))) (@Option.getD Nat r_0 (0 : Nat)) (([] : List Int), (Go.Eng.Er.nil, ())))).1)), ((List.getD (List.set T9 (@Option.getD Nat r_0 (0 : Nat)) (((List.getD T9 (@Option.getD Nat r_0 (0 : Nat)) (([] : List Int), (Go.Eng.Er.nil, ())))).1, (((((y0).2).2).2).1, (((List.getD T9 (@Option.getD Nat r_0 (0 : Nat)) (([] : List Int), (Go.Eng.Er.nil, ())))).2).2))) (@Option.getD Nat r_0 (0 : Nat)) (([] : List Int), (Go.Eng.Er.nil, ())))).2)), ()), (((y0).2).1, ())))
                        (
                        none))
                      (
                      none))
                    (
                    none))
                  (
                  none))
                (
                none))
              (
              none))
            (
            none))
          (
          none))
        (
        none)))
    (
    none)

abbrev c_cell_reader_tensor (N : Nat) : CallSpec E := ⟨117, ps_cell_reader_tensor, rs_cell_reader_tensor, fun x => F_cell_reader_tensor N x.1.1 x.2.1⟩

theorem cs_cell_reader_tensor_ok (S : Ini) (N : Nat) : CallsOK Go.Proofs.Tryz.prog E S (cs_cell_reader_tensor N) :=
  .cons (F_tens_Read_ok S N) (.nil)
theorem F_cell_reader_tensor_ok (S : Ini) (N : Nat) : ∀ x y, (c_cell_reader_tensor N).g x = some y → FCon Go.Proofs.Tryz.prog E S 117 ps_cell_reader_tensor rs_cell_reader_tensor x y := by
  intro x y h
  exact fun_specJ E_ok mixed (cs_cell_reader_tensor_ok S N) (f := 117) (fi := ⟨b_cell_reader_tensor, 35, Go.Proofs.Tryz.f117.results.toList⟩) (by kernel_rfl) (ls := []) (.nil) (js := []) (by kernel_rfl) (ps := ps_cell_reader_tensor) (rs := rs_cell_reader_tensor) (Eq.trans (b := F_cell_reader_tensor N x.1.1 x.2.1) (by kernel_rfl) h)

/-! (*lodge/cell.reader).end -/

abbrev ps_cell_reader_end : List Ty := [(.hd 9)]
abbrev rs_cell_reader_end : List Slot := [.data .err]
abbrev cs_cell_reader_end (N : Nat) : List (CallSpec E) := []
noncomputable abbrev b_cell_reader_end : Code := ((Go.Proofs.Tryz.f78.body).getD .skip)

def F_cell_reader_end (N : Nat) (T9 : List (List Int × (Er × Unit))) (r_0 : Option Nat) : Option ((List (List Int × (Er × Unit)) × Unit) × (Er × Unit)) :=
  cond (@Option.isSome Nat r_0)
    (
    cond (Go.Eng.Er.isNil (((List.getD T9 (@Option.getD Nat r_0 (0 : Nat)) (([] : List Int), (Go.Eng.Er.nil, ())))).2).1)
      (
      cond (@Option.isSome Nat r_0)
        (
        cond (decide ((0 : Int) < (Nat.cast (List.length ((List.getD T9 (@Option.getD Nat r_0 (0 : Nat)) (([] : List Int), (Go.Eng.Er.nil, ())))).1) : Int)))
          (
          cond (@Option.isSome Nat r_0)
            (
            cond (@Option.isSome Nat r_0)
              (
              some (((List.set T9 (@Option.getD Nat r_0 (0 : Nat)) (((List.getD T9 (@Option.getD Nat r_0 (0 : Nat)) (([] : List Int), (Go.Eng.Er.nil, ())))).1, ((Go.Eng.Er.s ErrMany), (((List.getD T9 (@Option.getD Nat r_0 (0 : Nat)) (([] : List Int), (Go.Eng.Er.nil, ())))).2).2))), ()), ((List.getD (List.set T9 (@Option.getD Nat r_0 (0 : Nat)) (((List.getD T9 (@Option.getD Nat r_0 (0 : Nat)) (([] : List Int), (Go.Eng.Er.nil, ())))).1, ((Go.Eng.Er.s ErrMany), (((List.getD T9 (@Option.getD Nat r_0 (0 : Nat)) (([] : List Int), (Go.Eng.Er.nil, ())))).2).2))) (@Option.getD Nat r_0 (0 : Nat)) (([] : List Int), (Go.Eng.Er.nil, ())))).2))
              (
              none))
            (
            none))
          (
          cond (@Option.isSome Nat r_0)
            (
            some ((T9, ()), ((List.getD T9 (@Option.getD Nat r_0 (0 : Nat)) (([] : List Int), (Go.Eng.Er.nil, ())))).2))
            (
            none)))
        (
        none))
      (
      cond (@Option.isSome Nat r_0)
        (
        some ((T9, ()), ((List.getD T9 (@Option.getD Nat r_0 (0 : Nat)) (([] : List Int), (Go.Eng.Er.nil, ())))).2))
        (
        none)))
    (
    none)

abbrev c_cell_reader_end (N : Nat) : CallSpec E := ⟨78, ps_cell_reader_end, rs_cell_reader_end, fun x => F_cell_reader_end N x.1.1 x.2.1⟩

theorem cs_cell_reader_end_ok (S : Ini) (N : Nat) : CallsOK Go.Proofs.Tryz.prog E S (cs_cell_reader_end N) :=
  .nil
theorem F_cell_reader_end_ok (S : Ini) (N : Nat) : ∀ x y, (c_cell_reader_end N).g x = some y → FCon Go.Proofs.Tryz.prog E S 78 ps_cell_reader_end rs_cell_reader_end x y := by
  intro x y h
  exact fun_specJ E_ok mixed (cs_cell_reader_end_ok S N) (f := 78) (fi := ⟨b_cell_reader_end, 24, Go.Proofs.Tryz.f78.results.toList⟩) (by kernel_rfl) (ls := []) (.nil) (js := []) (by kernel_rfl) (ps := ps_cell_reader_end) (rs := rs_cell_reader_end) (Eq.trans (b := F_cell_reader_end N x.1.1 x.2.1) (by kernel_rfl) h)

/-! lodge/tens.fits -/

abbrev ps_tens_fits : List Ty := [(.int .i64), .bool]
abbrev rs_tens_fits : List Slot := [.data .bool]
abbrev cs_tens_fits (N : Nat) : List (CallSpec E) := []
noncomputable abbrev b_tens_fits : Code := ((Go.Proofs.Tryz.f63.body).getD .skip)

def F_tens_fits (N : Nat) (n_0 : Int) (wide_1 : Bool) : Option (Unit × (Bool × Unit)) :=
  cond wide_1
    (
    cond (decide ((-(2147483648 : Int)) ≤ n_0))
      (
      some ((), ((decide (n_0 ≤ (2147483647 : Int))), ())))
      (
      some ((), (false, ()))))
    (
    cond (decide ((-(128 : Int)) ≤ n_0))
      (
      some ((), ((decide (n_0 ≤ (127 : Int))), ())))
      (
      some ((), (false, ()))))

abbrev c_tens_fits (N : Nat) : CallSpec E := ⟨63, ps_tens_fits, rs_tens_fits, fun x => F_tens_fits N x.2.1 x.2.2.1⟩

theorem cs_tens_fits_ok (S : Ini) (N : Nat) : CallsOK Go.Proofs.Tryz.prog E S (cs_tens_fits N) :=
  .nil
theorem F_tens_fits_ok (S : Ini) (N : Nat) : ∀ x y, (c_tens_fits N).g x = some y → FCon Go.Proofs.Tryz.prog E S 63 ps_tens_fits rs_tens_fits x y := by
  intro x y h
  exact fun_specJ E_ok mixed (cs_tens_fits_ok S N) (f := 63) (fi := ⟨b_tens_fits, 18, Go.Proofs.Tryz.f63.results.toList⟩) (by kernel_rfl) (ls := []) (.nil) (js := []) (by kernel_rfl) (ps := ps_tens_fits) (rs := rs_tens_fits) (Eq.trans (b := F_tens_fits N x.2.1 x.2.2.1) (by kernel_rfl) h)

/-! lodge/tens.Valid -/

abbrev ps_tens_Valid : List Ty := [(.st (.pair (.st (.pair (.sl (.int .i64)) .bool)) (.sl (.int .i64))))]
abbrev rs_tens_Valid : List Slot := [.data .err]
abbrev cs_tens_Valid (N : Nat) : List (CallSpec E) := [c_shape_Valid N, c_shape_Elems N, c_tens_fits N]
noncomputable abbrev b_tens_Valid : Code := ((Go.Proofs.Tryz.f31.body).getD .skip)

abbrev h_tens_Valid_0 : List Slot := [.dead, .box [.d (.st (.pair (.st (.pair (.sl (.int .i64)) .bool)) (.sl (.int .i64))))], .dead, .dead, .dead, .dead, .dead, .dead, .dead, .dead, .dead, .dead, .dead, .dead, .dead, .dead, .dead, .dead, .dead, .dead, .dead, .dead, .data (.sl (.int .i64)), .data (.int .i64), .data (.int .i64), .dead, .dead, .dead, .dead, .dead, .dead, .dead, .dead, .dead, .dead, .dead, .dead, .dead, .dead, .dead, .dead]
abbrev e_tens_Valid_0 : List (AX × List Slot) := [(AX.exit 0, [.dead, .dead, .dead, .dead, .dead, .dead, .dead, .dead, .dead, .dead, .dead, .dead, .dead, .dead, .dead, .dead, .dead, .dead, .dead, .dead, .dead, .dead, .dead, .dead, .dead, .dead, .dead, .dead, .dead, .dead, .dead, .dead, .dead, .dead, .dead, .dead, .dead, .dead, .dead, .dead, .dead]), (AX.ret, [.dead, .dead, .data .err, .dead, .dead, .dead, .dead, .dead, .dead, .dead, .dead, .dead, .dead, .dead, .dead, .dead, .dead, .dead, .dead, .dead, .dead, .dead, .dead, .dead, .dead, .dead, .dead, .dead, .dead, .dead, .dead, .dead, .dead, .dead, .dead, .dead, .dead, .dead, .dead, .dead, .dead])]
def g_tens_Valid_0 (N : Nat) : Nat → (((List Int × Bool) × List Int) × Unit) → List Int → Int → Int → Option (Sum (Unit × Unit) (Unit × (Er × Unit)))
  | 0, _, _, _, _ => none
  | n + 1, t_1, t_22, t_23, t_24 =>
    cond (decide (t_24 < t_23))
      (
      cond (decide ((0 : Int) ≤ t_24))
        (
        cond (decide ((Int.toNat t_24) < (List.length t_22)))
          (
          Option.bind (F_tens_fits N (List.getD t_22 (Int.toNat t_24) (0 : Int)) (((t_1).1).1).2) fun y3 =>
          cond (Bool.not ((y3).2).1)
            (
            some (Sum.inr ((), ((Go.Eng.Er.at t_24 ErrRange), ()))))
            (
            (g_tens_Valid_0 N n t_1 t_22 t_23 (wi64 (t_24 + (1 : Int))))))
          (
          none))
        (
        none))
      (
      some (Sum.inl ((), ())))

def F_tens_Valid (N : Nat) (t_0 : ((List Int × Bool) × List Int)) : Option (Unit × (Er × Unit)) :=
  Option.bind (F_shape_Valid N (t_0).1) fun y0 =>
  cond (Bool.not (Go.Eng.Er.isNil ((y0).2).1))
    (
    some ((), (y0).2))
    (
    Option.bind (F_shape_Elems N ((t_0).1).1) fun y1 =>
    cond (decide (@Ne Int (Nat.cast (List.length (t_0).2) : Int) ((y1).2).1))
      (
      some ((), ((Go.Eng.Er.s ErrShape), ())))
      (
      Option.bind (g_tens_Valid_0 N N (t_0, ()) (t_0).2 (Nat.cast (List.length (t_0).2) : Int) (0 : Int)) fun y2 =>
      Sum.elim (fun y3 =>
        some ((), (Go.Eng.Er.nil, ())))
        (fun y4 =>
        some ((), (y4).2)) y2))

abbrev c_tens_Valid (N : Nat) : CallSpec E := ⟨31, ps_tens_Valid, rs_tens_Valid, fun x => F_tens_Valid N x.2.1⟩
abbrev l_tens_Valid_0 (N : Nat) : LoopSpec E [] := ⟨0, h_tens_Valid_0, e_tens_Valid_0, fun x => g_tens_Valid_0 N N x.2.1 x.2.2.1 x.2.2.2.1 x.2.2.2.2.1⟩

theorem cs_tens_Valid_ok (S : Ini) (N : Nat) : CallsOK Go.Proofs.Tryz.prog E S (cs_tens_Valid N) :=
  .cons (F_shape_Valid_ok S N) (.cons (F_shape_Elems_ok S N) (.cons (F_tens_fits_ok S N) (.nil)))
noncomputable abbrev b_tens_Valid_0 : Code := (loopsOf b_tens_Valid).getD 0 .skip
theorem g_tens_Valid_0_ok (S : Ini) (N : Nat) : ∀ n x y, (fun (x : StV E [] h_tens_Valid_0) => g_tens_Valid_0 N n x.2.1 x.2.2.1 x.2.2.2.1 x.2.2.2.2.1) x = some y → LoopCon Go.Proofs.Tryz.prog E S b_tens_Valid_0 (encSlots E [] h_tens_Valid_0 x) (encEx E [] e_tens_Valid_0 y).1 (encEx E [] e_tens_Valid_0 y).2 :=
  loop_specJ E_ok mixed (E_ok.ks 31) (cs_tens_Valid_ok S N) (all := loopsOf b_tens_Valid) (ls := []) (.nil) (js := []) (i := 0) (by kernel_rfl) (inner_of (by kernel_rfl)) (head := h_tens_Valid_0) (ex := e_tens_Valid_0) (fun n (x : StV E [] h_tens_Valid_0) => g_tens_Valid_0 N n x.2.1 x.2.2.1 x.2.2.2.1 x.2.2.2.2.1) (fun _ => rfl) (fun n x => by kernel_rfl)
theorem F_tens_Valid_ok (S : Ini) (N : Nat) : ∀ x y, (c_tens_Valid N).g x = some y → FCon Go.Proofs.Tryz.prog E S 31 ps_tens_Valid rs_tens_Valid x y := by
  intro x y h
  exact fun_specJ E_ok mixed (cs_tens_Valid_ok S N) (f := 31) (fi := ⟨b_tens_Valid, 41, Go.Proofs.Tryz.f31.results.toList⟩) (by kernel_rfl) (ls := [l_tens_Valid_0 N]) (.cons (by kernel_rfl) (g_tens_Valid_0_ok S N N) (.nil)) (js := []) (by kernel_rfl) (ps := ps_tens_Valid) (rs := rs_tens_Valid) (Eq.trans (b := F_tens_Valid N x.2.1) (by kernel_rfl) h)

/-! lodge/tens.Raw -/

abbrev ps_tens_Raw : List Ty := [(.st (.pair (.st (.pair (.sl (.int .i64)) .bool)) (.sl (.int .i64))))]
abbrev rs_tens_Raw : List Slot := [.sl (.int .u8)]
abbrev cs_tens_Raw (N : Nat) : List (CallSpec E) := [c_shape_Bytes N, c_tens_Valid N]
noncomputable abbrev b_tens_Raw : Code := ((Go.Proofs.Tryz.f32.body).getD .skip)

abbrev h_tens_Raw_0 : List Slot := [.dead, .box [.d (.st (.pair (.st (.pair (.sl (.int .i64)) .bool)) (.sl (.int .i64))))], .dead, .sl (.int .u8), .dead, .dead, .dead, .dead, .dead, .dead, .dead, .dead, .dead, .dead, .data (.sl (.int .i64)), .data (.int .i64), .data (.int .i64), .dead, .dead, .dead, .dead, .dead, .dead, .dead, .dead, .dead, .dead, .dead]
abbrev e_tens_Raw_0 : List (AX × List Slot) := [(AX.exit 0, [.dead, .dead, .dead, .sl (.int .u8), .dead, .dead, .dead, .dead, .dead, .dead, .dead, .dead, .dead, .dead, .dead, .dead, .dead, .dead, .dead, .dead, .dead, .dead, .dead, .dead, .dead, .dead, .dead, .dead])]
def g_tens_Raw_0 (N : Nat) : Nat → (((List Int × Bool) × List Int) × Unit) → List Int → List Int → Int → Int → Option (Unit × (List Int × Unit))
  | 0, _, _, _, _, _ => none
  | n + 1, t_1, b_3, t_14, t_15, t_16 =>
    cond (decide (t_16 < t_15))
      (
      cond (decide ((0 : Int) ≤ t_16))
        (
        cond (decide ((Int.toNat t_16) < (List.length t_14)))
          (
          cond (decide (((0 : Nat) + (List.length b_3)) = (List.length b_3)))
            (
            cond (decide ((((List.length (List.take (List.length b_3) b_3)) + (List.length (Go.Eng.putB (List.getD t_14 (Int.toNat t_16) (0 : Int)) (((t_1).1).1).2))) * (2 : Nat)) ≤ Go.Eng.most))
              (
              cond (decide (((List.length (List.take (List.length b_3) b_3)) + (List.length (Go.Eng.putB (List.getD t_14 (Int.toNat t_16) (0 : Int)) (((t_1).1).1).2))) = (List.length ((List.take (List.length b_3) b_3) ++ (Go.Eng.putB (List.getD t_14 (Int.toNat t_16) (0 : Int)) (((t_1).1).1).2)))))
                (
                (g_tens_Raw_0 N n t_1 ((List.take (List.length b_3) b_3) ++ (Go.Eng.putB (List.getD t_14 (Int.toNat t_16) (0 : Int)) (((t_1).1).1).2)) t_14 t_15 (wi64 (t_16 + (1 : Int)))))
                (
                none))
              (
              none))
            (
            none))
          (
          none))
        (
        none))
      (
      cond (decide ((List.length b_3) = (List.length b_3)))
        (
        some ((), (b_3, ())))
        (
        none))

def F_tens_Raw (N : Nat) (t_0 : ((List Int × Bool) × List Int)) : Option (Unit × (List Int × Unit)) :=
  Option.bind (F_tens_Valid N t_0) fun y0 =>
  cond (Bool.not (Go.Eng.Er.isNil ((y0).2).1))
    (
    some ((), (([] : List Int), ())))
    (
    Option.bind (F_shape_Bytes N (t_0).1) fun y1 =>
    cond (decide ((0 : Int) ≤ ((y1).2).1))
      (
      cond (decide ((((y1).2).1 * ((Nat.cast 1 : Int) + (1 : Int))) ≤ (Nat.cast Go.Eng.most : Int)))
        (
        Option.bind (g_tens_Raw_0 N N (t_0, ()) (List.replicate 0 (0 : Int)) (t_0).2 (Nat.cast (List.length (t_0).2) : Int) (0 : Int)) fun y2 =>
        cond (decide ((List.length ((y2).2).1) = (List.length ((y2).2).1)))
          (
          some ((), (y2).2))
          (
          none))
        (
        none))
      (
      none))

abbrev c_tens_Raw (N : Nat) : CallSpec E := ⟨32, ps_tens_Raw, rs_tens_Raw, fun x => F_tens_Raw N x.2.1⟩
abbrev l_tens_Raw_0 (N : Nat) : LoopSpec E [] := ⟨0, h_tens_Raw_0, e_tens_Raw_0, fun x => g_tens_Raw_0 N N x.2.1 x.2.2.1 x.2.2.2.1 x.2.2.2.2.1 x.2.2.2.2.2.1⟩

theorem cs_tens_Raw_ok (S : Ini) (N : Nat) : CallsOK Go.Proofs.Tryz.prog E S (cs_tens_Raw N) :=
  .cons (F_shape_Bytes_ok S N) (.cons (F_tens_Valid_ok S N) (.nil))
noncomputable abbrev b_tens_Raw_0 : Code := (loopsOf b_tens_Raw).getD 0 .skip
theorem g_tens_Raw_0_ok (S : Ini) (N : Nat) : ∀ n x y, (fun (x : StV E [] h_tens_Raw_0) => g_tens_Raw_0 N n x.2.1 x.2.2.1 x.2.2.2.1 x.2.2.2.2.1 x.2.2.2.2.2.1) x = some y → LoopCon Go.Proofs.Tryz.prog E S b_tens_Raw_0 (encSlots E [] h_tens_Raw_0 x) (encEx E [] e_tens_Raw_0 y).1 (encEx E [] e_tens_Raw_0 y).2 :=
  loop_specJ E_ok mixed (E_ok.ks 32) (cs_tens_Raw_ok S N) (all := loopsOf b_tens_Raw) (ls := []) (.nil) (js := []) (i := 0) (by kernel_rfl) (inner_of (by kernel_rfl)) (head := h_tens_Raw_0) (ex := e_tens_Raw_0) (fun n (x : StV E [] h_tens_Raw_0) => g_tens_Raw_0 N n x.2.1 x.2.2.1 x.2.2.2.1 x.2.2.2.2.1 x.2.2.2.2.2.1) (fun _ => rfl) (fun n x => by kernel_rfl)
theorem F_tens_Raw_ok (S : Ini) (N : Nat) : ∀ x y, (c_tens_Raw N).g x = some y → FCon Go.Proofs.Tryz.prog E S 32 ps_tens_Raw rs_tens_Raw x y := by
  intro x y h
  exact fun_specJ E_ok mixed (cs_tens_Raw_ok S N) (f := 32) (fi := ⟨b_tens_Raw, 28, Go.Proofs.Tryz.f32.results.toList⟩) (by kernel_rfl) (ls := [l_tens_Raw_0 N]) (.cons (by kernel_rfl) (g_tens_Raw_0_ok S N N) (.nil)) (js := []) (by kernel_rfl) (ps := ps_tens_Raw) (rs := rs_tens_Raw) (Eq.trans (b := F_tens_Raw N x.2.1) (by kernel_rfl) h)

/-! lodge/tens.Bytes -/

abbrev ps_tens_Bytes : List Ty := [(.st (.pair (.st (.pair (.sl (.int .i64)) .bool)) (.sl (.int .i64))))]
abbrev rs_tens_Bytes : List Slot := [.sl (.int .u8)]
abbrev cs_tens_Bytes (N : Nat) : List (CallSpec E) := [c_tens_Valid N, c_tens_Raw N]
noncomputable abbrev b_tens_Bytes : Code := ((Go.Proofs.Tryz.f12.body).getD .skip)

abbrev h_tens_Bytes_0 : List Slot := [.dead, .box [.d (.st (.pair (.st (.pair (.sl (.int .i64)) .bool)) (.sl (.int .i64))))], .dead, .dead, .sl (.int .u8), .dead, .dead, .dead, .dead, .dead, .dead, .dead, .dead, .dead, .dead, .dead, .dead, .dead, .dead, .dead, .dead, .dead, .dead, .dead, .data (.sl (.int .i64)), .data (.int .i64), .data (.int .i64), .dead, .dead, .dead, .dead, .dead, .dead, .dead, .dead, .dead, .dead, .dead, .dead, .dead, .dead, .dead, .dead]
abbrev e_tens_Bytes_0 : List (AX × List Slot) := [(AX.exit 0, [.dead, .box [.d (.st (.pair (.st (.pair (.sl (.int .i64)) .bool)) (.sl (.int .i64))))], .dead, .dead, .sl (.int .u8), .dead, .dead, .dead, .dead, .dead, .dead, .dead, .dead, .dead, .dead, .dead, .dead, .dead, .dead, .dead, .dead, .dead, .dead, .dead, .dead, .dead, .dead, .dead, .dead, .dead, .dead, .dead, .dead, .dead, .dead, .dead, .dead, .dead, .dead, .dead, .dead, .dead, .dead])]
def g_tens_Bytes_0 (N : Nat) : Nat → (((List Int × Bool) × List Int) × Unit) → List Int → List Int → Int → Int → Option (Unit × ((((List Int × Bool) × List Int) × Unit) × (List Int × Unit)))
  | 0, _, _, _, _, _ => none
  | n + 1, t_1, b_4, t_24, t_25, t_26 =>
    cond (decide (t_26 < t_25))
      (
      cond (decide ((0 : Int) ≤ t_26))
        (
        cond (decide ((Int.toNat t_26) < (List.length t_24)))
          (
          cond (decide (((0 : Nat) + (List.length b_4)) = (List.length b_4)))
            (
            cond (decide ((((List.length b_4) + 2) * (1 + (1 : Nat))) ≤ Go.Eng.most))
              (
              cond (decide (((List.length b_4) + 2) = (List.length ((List.take (List.length b_4) b_4) ++ ((wu8 (List.getD t_24 (Int.toNat t_26) (0 : Int))) :: ((wu8 (Go.Eng.shrI Go.IntKind.i64 (List.getD t_24 (Int.toNat t_26) (0 : Int)) (8 : Int))) :: ([] : List Int)))))))
                (
                (g_tens_Bytes_0 N n t_1 ((List.take (List.length b_4) b_4) ++ ((wu8 (List.getD t_24 (Int.toNat t_26) (0 : Int))) :: ((wu8 (Go.Eng.shrI Go.IntKind.i64 (List.getD t_24 (Int.toNat t_26) (0 : Int)) (8 : Int))) :: ([] : List Int)))) t_24 t_25 (wi64 (t_26 + (1 : Int)))))
                (
                none))
              (
              none))
            (
            none))
          (
          none))
        (
        none))
      (
      cond (decide ((List.length b_4) = (List.length b_4)))
        (
        some ((), (t_1, (b_4, ()))))
        (
        none))

def F_tens_Bytes (N : Nat) (t_0 : ((List Int × Bool) × List Int)) : Option (Unit × (List Int × Unit)) :=
  Option.bind (F_tens_Valid N t_0) fun y0 =>
  cond (Bool.not (Go.Eng.Er.isNil ((y0).2).1))
    (
    some ((), (([] : List Int), ())))
    (
    cond ((t_0).1).2
      (
      Option.bind (g_tens_Bytes_0 N N (t_0, ()) ((wu8 ((wu8 (Nat.cast (List.length ((t_0).1).1) : Int)) + (8 : Int))) :: ([] : List Int)) ((t_0).1).1 (Nat.cast (List.length ((t_0).1).1) : Int) (0 : Int)) fun y1 =>
      Option.bind (F_tens_Raw N (((y1).2).1).1) fun y2 =>
      cond (decide (((0 : Nat) + (List.length ((y2).2).1)) ≤ (List.length ((y2).2).1)))
        (
        cond (decide (((0 : Nat) + (List.length (((y1).2).2).1)) = (List.length (((y1).2).2).1)))
          (
          cond (decide ((((List.length (((y1).2).2).1) + (List.length (List.take (List.length ((y2).2).1) ((y2).2).1))) * (1 + (1 : Nat))) ≤ Go.Eng.most))
            (
            cond (decide (((List.length (((y1).2).2).1) + (List.length (List.take (List.length ((y2).2).1) ((y2).2).1))) = (List.length ((List.take (List.length (((y1).2).2).1) (((y1).2).2).1) ++ (List.take (List.length ((y2).2).1) ((y2).2).1)))))
              (
              some ((), (((List.take (List.length (((y1).2).2).1) (((y1).2).2).1) ++ (List.take (List.length ((y2).2).1) ((y2).2).1)), ())))
              (
              none))
            (
            none))
          (
          none))
        (
        none))
      (
      Option.bind (g_tens_Bytes_0 N N (t_0, ()) ((wu8 (Nat.cast (List.length ((t_0).1).1) : Int)) :: ([] : List Int)) ((t_0).1).1 (Nat.cast (List.length ((t_0).1).1) : Int) (0 : Int)) fun y3 =>
      Option.bind (F_tens_Raw N (((y3).2).1).1) fun y4 =>
      cond (decide (((0 : Nat) + (List.length ((y4).2).1)) ≤ (List.length ((y4).2).1)))
        (
        cond (decide (((0 : Nat) + (List.length (((y3).2).2).1)) = (List.length (((y3).2).2).1)))
          (
          cond (decide ((((List.length (((y3).2).2).1) + (List.length (List.take (List.length ((y4).2).1) ((y4).2).1))) * (1 + (1 : Nat))) ≤ Go.Eng.most))
            (
            cond (decide (((List.length (((y3).2).2).1) + (List.length (List.take (List.length ((y4).2).1) ((y4).2).1))) = (List.length ((List.take (List.length (((y3).2).2).1) (((y3).2).2).1) ++ (List.take (List.length ((y4).2).1) ((y4).2).1)))))
              (
              some ((), (((List.take (List.length (((y3).2).2).1) (((y3).2).2).1) ++ (List.take (List.length ((y4).2).1) ((y4).2).1)), ())))
              (
              none))
            (
            none))
          (
          none))
        (
        none)))

abbrev c_tens_Bytes (N : Nat) : CallSpec E := ⟨12, ps_tens_Bytes, rs_tens_Bytes, fun x => F_tens_Bytes N x.2.1⟩
abbrev l_tens_Bytes_0 (N : Nat) : LoopSpec E [] := ⟨0, h_tens_Bytes_0, e_tens_Bytes_0, fun x => g_tens_Bytes_0 N N x.2.1 x.2.2.1 x.2.2.2.1 x.2.2.2.2.1 x.2.2.2.2.2.1⟩

theorem cs_tens_Bytes_ok (S : Ini) (N : Nat) : CallsOK Go.Proofs.Tryz.prog E S (cs_tens_Bytes N) :=
  .cons (F_tens_Valid_ok S N) (.cons (F_tens_Raw_ok S N) (.nil))
noncomputable abbrev b_tens_Bytes_0 : Code := (loopsOf b_tens_Bytes).getD 0 .skip
theorem g_tens_Bytes_0_ok (S : Ini) (N : Nat) : ∀ n x y, (fun (x : StV E [] h_tens_Bytes_0) => g_tens_Bytes_0 N n x.2.1 x.2.2.1 x.2.2.2.1 x.2.2.2.2.1 x.2.2.2.2.2.1) x = some y → LoopCon Go.Proofs.Tryz.prog E S b_tens_Bytes_0 (encSlots E [] h_tens_Bytes_0 x) (encEx E [] e_tens_Bytes_0 y).1 (encEx E [] e_tens_Bytes_0 y).2 :=
  loop_specJ E_ok mixed (E_ok.ks 12) (cs_tens_Bytes_ok S N) (all := loopsOf b_tens_Bytes) (ls := []) (.nil) (js := []) (i := 0) (by kernel_rfl) (inner_of (by kernel_rfl)) (head := h_tens_Bytes_0) (ex := e_tens_Bytes_0) (fun n (x : StV E [] h_tens_Bytes_0) => g_tens_Bytes_0 N n x.2.1 x.2.2.1 x.2.2.2.1 x.2.2.2.2.1 x.2.2.2.2.2.1) (fun _ => rfl) (fun n x => by kernel_rfl)
theorem F_tens_Bytes_ok (S : Ini) (N : Nat) : ∀ x y, (c_tens_Bytes N).g x = some y → FCon Go.Proofs.Tryz.prog E S 12 ps_tens_Bytes rs_tens_Bytes x y := by
  intro x y h
  exact fun_specJ E_ok mixed (cs_tens_Bytes_ok S N) (f := 12) (fi := ⟨b_tens_Bytes, 43, Go.Proofs.Tryz.f12.results.toList⟩) (by kernel_rfl) (ls := [l_tens_Bytes_0 N]) (.cons (by kernel_rfl) (g_tens_Bytes_0_ok S N N) (.nil)) (js := []) (by kernel_rfl) (ps := ps_tens_Bytes) (rs := rs_tens_Bytes) (Eq.trans (b := F_tens_Bytes N x.2.1) (by kernel_rfl) h)

/-! (*lodge/cell.reader).four -/

abbrev ps_cell_reader_four : List Ty := [(.hd 9)]
abbrev rs_cell_reader_four : List Slot := [.data (.int .i64)]
abbrev cs_cell_reader_four (N : Nat) : List (CallSpec E) := [c_cell_reader_one N]
noncomputable abbrev b_cell_reader_four : Code := ((Go.Proofs.Tryz.f134.body).getD .skip)

abbrev h_cell_reader_four_0 : List Slot := [.data (.hd 9), .dead, .dead, .data (.int .i64), .dead, .data (.int .i64), .dead, .dead, .dead, .dead, .dead, .dead, .dead, .dead, .dead, .dead, .dead]
abbrev e_cell_reader_four_0 : List (AX × List Slot) := [(AX.exit 0, [.dead, .dead, .dead, .data (.int .i64), .dead, .dead, .dead, .dead, .dead, .dead, .dead, .dead, .dead, .dead, .dead, .dead, .dead])]
def g_cell_reader_four_0 (N : Nat) : Nat → List (List Int × (Er × Unit)) → Option Nat → Int → Int → Option ((List (List Int × (Er × Unit)) × Unit) × (Int × Unit))
  | 0, _, _, _, _ => none
  | n + 1, T9, r_0, n_3, t_5 =>
    cond (decide (t_5 < (4 : Int)))
      (
      Option.bind (F_cell_reader_one N T9 r_0) fun y1 =>
      cond (decide ((0 : Int) ≤ (wi64 ((8 : Int) * t_5))))
        (
        (g_cell_reader_four_0 N n ((y1).1).1 r_0 (Go.Eng.bitsI Go.BinOp.or Go.IntKind.i64 n_3 (Go.Eng.shlI Go.IntKind.i64 ((y1).2).1 (wi64 ((8 : Int) * t_5)))) (wi64 (t_5 + (1 : Int)))))
        (
        none))
      (
      some ((T9, ()), (n_3, ())))

def F_cell_reader_four (N : Nat) (T9 : List (List Int × (Er × Unit))) (r_0 : Option Nat) : Option ((List (List Int × (Er × Unit)) × Unit) × (Int × Unit)) :=
  Option.bind (g_cell_reader_four_0 N N T9 r_0 (0 : Int) (0 : Int)) fun y0 =>
  some y0

abbrev c_cell_reader_four (N : Nat) : CallSpec E := ⟨134, ps_cell_reader_four, rs_cell_reader_four, fun x => F_cell_reader_four N x.1.1 x.2.1⟩
abbrev l_cell_reader_four_0 (N : Nat) : LoopSpec E [9] := ⟨0, h_cell_reader_four_0, e_cell_reader_four_0, fun x => g_cell_reader_four_0 N N x.1.1 x.2.1 x.2.2.1 x.2.2.2.1⟩

theorem cs_cell_reader_four_ok (S : Ini) (N : Nat) : CallsOK Go.Proofs.Tryz.prog E S (cs_cell_reader_four N) :=
  .cons (F_cell_reader_one_ok S N) (.nil)
noncomputable abbrev b_cell_reader_four_0 : Code := (loopsOf b_cell_reader_four).getD 0 .skip
theorem g_cell_reader_four_0_ok (S : Ini) (N : Nat) : ∀ n x y, (fun (x : StV E [9] h_cell_reader_four_0) => g_cell_reader_four_0 N n x.1.1 x.2.1 x.2.2.1 x.2.2.2.1) x = some y → LoopCon Go.Proofs.Tryz.prog E S b_cell_reader_four_0 (encSlots E [9] h_cell_reader_four_0 x) (encEx E [9] e_cell_reader_four_0 y).1 (encEx E [9] e_cell_reader_four_0 y).2 :=
  loop_specJ E_ok mixed (E_ok.ks 134) (cs_cell_reader_four_ok S N) (all := loopsOf b_cell_reader_four) (ls := []) (.nil) (js := []) (i := 0) (by kernel_rfl) (inner_of (by kernel_rfl)) (head := h_cell_reader_four_0) (ex := e_cell_reader_four_0) (fun n (x : StV E [9] h_cell_reader_four_0) => g_cell_reader_four_0 N n x.1.1 x.2.1 x.2.2.1 x.2.2.2.1) (fun _ => rfl) (fun n x => by kernel_rfl)
theorem F_cell_reader_four_ok (S : Ini) (N : Nat) : ∀ x y, (c_cell_reader_four N).g x = some y → FCon Go.Proofs.Tryz.prog E S 134 ps_cell_reader_four rs_cell_reader_four x y := by
  intro x y h
  exact fun_specJ E_ok mixed (cs_cell_reader_four_ok S N) (f := 134) (fi := ⟨b_cell_reader_four, 17, Go.Proofs.Tryz.f134.results.toList⟩) (by kernel_rfl) (ls := [l_cell_reader_four_0 N]) (.cons (by kernel_rfl) (g_cell_reader_four_0_ok S N N) (.nil)) (js := []) (by kernel_rfl) (ps := ps_cell_reader_four) (rs := rs_cell_reader_four) (Eq.trans (b := F_cell_reader_four N x.1.1 x.2.1) (by kernel_rfl) h)

/-! (*lodge/cell.Cell).submit -/

abbrev ps_cell_Cell_submit : List Ty := [(.hd 8), (.hd 9), (.int .u64)]
abbrev rs_cell_Cell_submit : List Slot := [.data (.int .i64), .data .err]
abbrev cs_cell_Cell_submit (N : Nat) : List (CallSpec E) := [c_cell_reader_below N, c_cell_reader_slot N, c_cell_reader_tensor N, c_cell_reader_end N, c_tens_Raw N, c_cell_reader_four N]
noncomputable abbrev b_cell_Cell_submit : Code := ((Go.Proofs.Tryz.f74.body).getD .skip)

abbrev h_cell_Cell_submit_0 : List Slot := [.data (.hd 8), .data (.hd 9), .data (.int .u64), .dead, .dead, .dead, .dead, .dead, .data (.int .i64), .sl (.int .i64), .data (.int .i64), .dead, .dead, .dead, .dead, .dead, .dead, .dead, .dead, .dead, .dead, .dead, .dead, .dead, .dead, .dead, .dead, .dead, .dead, .dead, .dead, .dead, .dead, .dead, .dead, .dead, .dead, .dead, .dead, .dead, .dead, .dead, .dead, .dead, .dead, .dead, .dead, .dead, .dead, .dead, .dead, .dead, .dead, .dead, .dead, .dead, .dead, .dead, .dead, .dead, .dead, .dead, .dead, .dead, .dead, .dead, .dead, .dead, .dead, .dead, .dead, .dead, .dead, .dead, .dead, .dead, .dead, .dead, .dead, .dead, .dead, .dead, .dead, .dead, .dead, .dead, .dead, .dead, .dead, .dead, .dead, .dead, .dead, .dead, .dead, .dead, .dead, .dead, .dead, .dead, .dead, .dead, .dead, .dead, .dead, .dead, .dead, .dead, .dead, .dead, .dead, .dead, .dead, .dead, .dead, .dead, .dead, .dead, .dead, .dead, .dead, .dead, .dead, .dead, .dead, .dead, .dead, .dead, .dead, .dead, .dead, .dead, .dead, .dead, .dead, .dead, .dead, .dead, .dead, .dead, .dead, .dead, .dead, .dead, .dead, .dead, .dead, .dead, .dead, .dead, .dead]
abbrev e_cell_Cell_submit_0 : List (AX × List Slot) := [(AX.exit 0, [.data (.hd 8), .data (.hd 9), .data (.int .u64), .dead, .dead, .dead, .dead, .dead, .data (.int .i64), .sl (.int .i64), .dead, .dead, .dead, .dead, .dead, .dead, .dead, .dead, .dead, .dead, .dead, .dead, .dead, .dead, .dead, .dead, .dead, .dead, .dead, .dead, .dead, .dead, .dead, .dead, .dead, .dead, .dead, .dead, .dead, .dead, .dead, .dead, .dead, .dead, .dead, .dead, .dead, .dead, .dead, .dead, .dead, .dead, .dead, .dead, .dead, .dead, .dead, .dead, .dead, .dead, .dead, .dead, .dead, .dead, .dead, .dead, .dead, .dead, .dead, .dead, .dead, .dead, .dead, .dead, .dead, .dead, .dead, .dead, .dead, .dead, .dead, .dead, .dead, .dead, .dead, .dead, .dead, .dead, .dead, .dead, .dead, .dead, .dead, .dead, .dead, .dead, .dead, .dead, .dead, .dead, .dead, .dead, .dead, .dead, .dead, .dead, .dead, .dead, .dead, .dead, .dead, .dead, .dead, .dead, .dead, .dead, .dead, .dead, .dead, .dead, .dead, .dead, .dead, .dead, .dead, .dead, .dead, .dead, .dead, .dead, .dead, .dead, .dead, .dead, .dead, .dead, .dead, .dead, .dead, .dead, .dead, .dead, .dead, .dead, .dead, .dead, .dead, .dead, .dead, .dead, .dead])]
def g_cell_Cell_submit_0 (N : Nat) : Nat → List (List Int × (List (Option Nat) × Unit)) → List (Int × (Int × (Int × (List ((Int × Int)) × Unit)))) → List (Nat × (List ((Int × Int) × ((Bool × (((List Int × Bool) × List Int) × ((Int × Int) × Int))) × Nat)) × Unit)) → List (Nat × (List ((Int × Int) × (Int × Nat)) × Unit)) → List (Nat × (List (((Int × Int) × Int) × (Int × Nat)) × Unit)) → List (Option Nat × (Option Nat × (Option Nat × Unit))) → List (Nat × (List (Int × (Int × Nat)) × Unit)) → List (Nat × (List (Int × (((Int × (List ((Int × (List Int × Bool))) × (List (((List Int × Bool) × List Int)) × (List ((List Int × Bool)) × (List ((Int × (Int × (List Int × (List Int × (Int × Int)))))) × (Int × Int)))))) × Int) × Nat)) × Unit)) → List (Int × (Int × (Option Nat × (Option Nat × (Option Nat × (Option Nat × (List ((Int × (Option Nat × Int))) × Unit))))))) → List (List Int × (Er × Unit)) → List (Int × (List ((Int × (List Int × Bool))) × (List (((List Int × Bool) × List Int)) × (List ((List Int × Bool)) × (List ((Int × (Int × (List Int × (List Int × (Int × Int)))))) × (Int × (Int × (List (((List Int × Bool) × List Int)) × (List Int × (Int × (Int × (Int × (Int × (List Int × Unit)))))))))))))) → Option Nat → Option Nat → Int → Int → List Int → Int → Option ((List (List Int × (List (Option Nat) × Unit)) × (List (Int × (Int × (Int × (List ((Int × Int)) × Unit)))) × (List (Nat × (List ((Int × Int) × ((Bool × (((List Int × Bool) × List Int) × ((Int × Int) × Int))) × Nat)) × Unit)) × (List (Nat × (List ((Int × Int) × (Int × Nat)) × Unit)) × (List (Nat × (List (((Int × Int) × Int) × (Int × Nat)) × Unit)) × (List (Option Nat × (Option Nat × (Option Nat × Unit))) × (List (Nat × (List (Int × (Int × Nat)) × Unit)) × (List (Nat × (List (Int × (((Int × (List ((Int × (List Int × Bool))) × (List (((List Int × Bool) × List Int)) × (List ((List Int × Bool)) × (List ((Int × (Int × (List Int × (List Int × (Int × Int)))))) × (Int × Int)))))) × Int) × Nat)) × Unit)) × (List (Int × (Int × (Option Nat × (Option Nat × (Option Nat × (Option Nat × (List ((Int × (Option Nat × Int))) × Unit))))))) × (List (List Int × (Er × Unit)) × (List (Int × (List ((Int × (List Int × Bool))) × (List (((List Int × Bool) × List Int)) × (List ((List Int × Bool)) × (List ((Int × (Int × (List Int × (List Int × (Int × Int)))))) × (Int × (Int × (List (((List Int × Bool) × List Int)) × (List Int × (Int × (Int × (Int × (Int × (List Int × Unit)))))))))))))) × Unit))))))))))) × (Option Nat × (Option Nat × (Int × (Int × (List Int × Unit))))))
  | 0, _, _, _, _, _, _, _, _, _, _, _, _, _, _, _, _, _ => none
  | n + 1, T0, T1, T2, T3, T4, T5, T6, T7, T8, T9, T10, c_0, r_1, counter_2, slot_8, slots_9, n_10 =>
    cond (decide ((0 : Int) < n_10))
      (
      cond (@Option.isSome Nat r_1)
        (
        cond (Go.Eng.Er.isNil (((List.getD T9 (@Option.getD Nat r_1 (0 : Nat)) (([] : List Int), (Go.Eng.Er.nil, ())))).2).1)
          (
          Option.bind (F_cell_reader_slot N T9 r_1) fun y3 =>
          cond (decide (((0 : Nat) + (List.length slots_9)) = (List.length slots_9)))
            (
            cond (decide ((((List.length slots_9) + 1) * (8 + (1 : Nat))) ≤ Go.Eng.most))
              (
              cond (decide (((List.length slots_9) + 1) = (List.length ((List.take (List.length slots_9) slots_9) ++ (((y3).2).1 :: ([] : List Int))))))
                (
                (g_cell_Cell_submit_0 N n T0 T1 T2 T3 T4 T5 T6 T7 T8 ((y3).1).1 T10 c_0 r_1 counter_2 slot_8 ((List.take (List.length slots_9) slots_9) ++ (((y3).2).1 :: ([] : List Int))) (wi64 (n_10 - (1 : Int)))))
                (
                none))
              (
              none))
            (
            none))
          (
          cond (decide ((List.length slots_9) = (List.length slots_9)))
            (
            some ((T0, (T1, (T2, (T3, (T4, (T5, (T6, (T7, (T8, (T9, (T10, ()))))))))))), (c_0, (r_1, (counter_2, (slot_8, (slots_9, ())))))))
            (
            none)))
        (
        none))
      (
      cond (decide ((List.length slots_9) = (List.length slots_9)))
        (
        some ((T0, (T1, (T2, (T3, (T4, (T5, (T6, (T7, (T8, (T9, (T10, ()))))))))))), (c_0, (r_1, (counter_2, (slot_8, (slots_9, ())))))))
        (
        none))

abbrev h_cell_Cell_submit_1 : List Slot := [.data (.hd 8), .dead, .data (.int .u64), .dead, .dead, .dead, .dead, .dead, .dead, .dead, .dead, .data (.int .i64), .box [.sl (.int .i64), .d .bool, .sl (.int .i64)], .dead, .box [.d (.st (.pair (.st (.pair (.int .i64) (.pair (.sl (.st (.pair (.int .i64) (.st (.pair (.sl (.int .i64)) .bool))))) (.pair (.sl (.st (.pair (.st (.pair (.sl (.int .i64)) .bool)) (.sl (.int .i64))))) (.pair (.sl (.st (.pair (.sl (.int .i64)) .bool))) (.pair (.sl (.st (.pair (.int .i64) (.pair (.int .i64) (.pair (.sl (.int .i64)) (.pair (.sl (.int .i64)) (.pair (.int .i64) (.int .i64)))))))) (.pair (.int .i64) (.int .i64)))))))) (.int .i64)))], .dead, .sl (.st (.pair (.st (.pair (.sl (.int .i64)) .bool)) (.sl (.int .i64)))), .dead, .dead, .dead, .dead, .dead, .dead, .dead, .dead, .dead, .dead, .dead, .dead, .dead, .dead, .dead, .dead, .dead, .dead, .dead, .dead, .dead, .dead, .dead, .dead, .dead, .dead, .dead, .dead, .dead, .dead, .dead, .dead, .dead, .dead, .dead, .dead, .dead, .dead, .dead, .dead, .dead, .dead, .dead, .dead, .dead, .dead, .dead, .dead, .dead, .sl (.int .i64), .data (.int .i64), .data (.int .i64), .dead, .dead, .dead, .dead, .dead, .dead, .dead, .dead, .dead, .dead, .dead, .dead, .dead, .dead, .dead, .dead, .dead, .dead, .dead, .dead, .dead, .dead, .dead, .dead, .dead, .dead, .dead, .dead, .dead, .dead, .dead, .dead, .dead, .dead, .dead, .dead, .dead, .dead, .dead, .dead, .dead, .dead, .dead, .dead, .dead, .dead, .dead, .dead, .dead, .dead, .dead, .dead, .dead, .dead, .dead, .dead, .dead, .dead, .dead, .dead, .dead, .dead, .dead, .dead, .dead, .dead, .dead, .dead, .dead, .dead, .dead, .dead, .dead, .dead, .dead, .dead, .dead, .dead, .dead, .dead, .dead, .dead]
abbrev e_cell_Cell_submit_1 : List (AX × List Slot) := [(AX.exit 2, [.data (.hd 8), .dead, .data (.int .u64), .dead, .dead, .dead, .dead, .dead, .dead, .dead, .dead, .data (.int .i64), .box [.sl (.int .i64), .d .bool, .sl (.int .i64)], .dead, .box [.d (.st (.pair (.st (.pair (.int .i64) (.pair (.sl (.st (.pair (.int .i64) (.st (.pair (.sl (.int .i64)) .bool))))) (.pair (.sl (.st (.pair (.st (.pair (.sl (.int .i64)) .bool)) (.sl (.int .i64))))) (.pair (.sl (.st (.pair (.sl (.int .i64)) .bool))) (.pair (.sl (.st (.pair (.int .i64) (.pair (.int .i64) (.pair (.sl (.int .i64)) (.pair (.sl (.int .i64)) (.pair (.int .i64) (.int .i64)))))))) (.pair (.int .i64) (.int .i64)))))))) (.int .i64)))], .dead, .sl (.st (.pair (.st (.pair (.sl (.int .i64)) .bool)) (.sl (.int .i64)))), .dead, .dead, .dead, .dead, .dead, .dead, .dead, .dead, .dead, .dead, .dead, .dead, .dead, .dead, .dead, .dead, .dead, .dead, .dead, .dead, .dead, .dead, .dead, .dead, .dead, .dead, .dead, .dead, .dead, .dead, .dead, .dead, .dead, .dead, .dead, .dead, .dead, .dead, .dead, .dead, .dead, .dead, .dead, .dead, .dead, .dead, .dead, .dead, .dead, .dead, .dead, .dead, .dead, .dead, .dead, .dead, .dead, .dead, .dead, .dead, .dead, .dead, .dead, .dead, .dead, .dead, .dead, .dead, .dead, .dead, .dead, .dead, .dead, .dead, .dead, .dead, .dead, .dead, .dead, .dead, .dead, .dead, .dead, .dead, .dead, .dead, .dead, .dead, .dead, .dead, .dead, .dead, .dead, .dead, .dead, .dead, .dead, .dead, .dead, .dead, .dead, .dead, .dead, .dead, .dead, .dead, .dead, .dead, .dead, .dead, .dead, .dead, .dead, .dead, .dead, .dead, .dead, .dead, .dead, .dead, .dead, .dead, .dead, .dead, .dead, .dead, .dead, .dead, .dead, .dead, .dead, .dead, .dead, .dead])]
def g_cell_Cell_submit_1 (N : Nat) : Nat → List (List Int × (List (Option Nat) × Unit)) → List (Int × (Int × (Int × (List ((Int × Int)) × Unit)))) → List (Nat × (List ((Int × Int) × ((Bool × (((List Int × Bool) × List Int) × ((Int × Int) × Int))) × Nat)) × Unit)) → List (Nat × (List ((Int × Int) × (Int × Nat)) × Unit)) → List (Nat × (List (((Int × Int) × Int) × (Int × Nat)) × Unit)) → List (Option Nat × (Option Nat × (Option Nat × Unit))) → List (Nat × (List (Int × (Int × Nat)) × Unit)) → List (Nat × (List (Int × (((Int × (List ((Int × (List Int × Bool))) × (List (((List Int × Bool) × List Int)) × (List ((List Int × Bool)) × (List ((Int × (Int × (List Int × (List Int × (Int × Int)))))) × (Int × Int)))))) × Int) × Nat)) × Unit)) → List (Int × (Int × (Option Nat × (Option Nat × (Option Nat × (Option Nat × (List ((Int × (Option Nat × Int))) × Unit))))))) → List (List Int × (Er × Unit)) → List (Int × (List ((Int × (List Int × Bool))) × (List (((List Int × Bool) × List Int)) × (List ((List Int × Bool)) × (List ((Int × (Int × (List Int × (List Int × (Int × Int)))))) × (Int × (Int × (List (((List Int × Bool) × List Int)) × (List Int × (Int × (Int × (Int × (Int × (List Int × Unit)))))))))))))) → Option Nat → Int → Int → (List Int × (Bool × (List Int × Unit))) → (((Int × (List ((Int × (List Int × Bool))) × (List (((List Int × Bool) × List Int)) × (List ((List Int × Bool)) × (List ((Int × (Int × (List Int × (List Int × (Int × Int)))))) × (Int × Int)))))) × Int) × Unit) → List (((List Int × Bool) × List Int)) → List Int → Int → Int → Option ((List (List Int × (List (Option Nat) × Unit)) × (List (Int × (Int × (Int × (List ((Int × Int)) × Unit)))) × (List (Nat × (List ((Int × Int) × ((Bool × (((List Int × Bool) × List Int) × ((Int × Int) × Int))) × Nat)) × Unit)) × (List (Nat × (List ((Int × Int) × (Int × Nat)) × Unit)) × (List (Nat × (List (((Int × Int) × Int) × (Int × Nat)) × Unit)) × (List (Option Nat × (Option Nat × (Option Nat × Unit))) × (List (Nat × (List (Int × (Int × Nat)) × Unit)) × (List (Nat × (List (Int × (((Int × (List ((Int × (List Int × Bool))) × (List (((List Int × Bool) × List Int)) × (List ((List Int × Bool)) × (List ((Int × (Int × (List Int × (List Int × (Int × Int)))))) × (Int × Int)))))) × Int) × Nat)) × Unit)) × (List (Int × (Int × (Option Nat × (Option Nat × (Option Nat × (Option Nat × (List ((Int × (Option Nat × Int))) × Unit))))))) × (List (List Int × (Er × Unit)) × (List (Int × (List ((Int × (List Int × Bool))) × (List (((List Int × Bool) × List Int)) × (List ((List Int × Bool)) × (List ((Int × (Int × (List Int × (List Int × (Int × Int)))))) × (Int × (Int × (List (((List Int × Bool) × List Int)) × (List Int × (Int × (Int × (Int × (Int × (List Int × Unit)))))))))))))) × Unit))))))))))) × (Option Nat × (Int × (Int × ((List Int × (Bool × (List Int × Unit))) × ((((Int × (List ((Int × (List Int × Bool))) × (List (((List Int × Bool) × List Int)) × (List ((List Int × Bool)) × (List ((Int × (Int × (List Int × (List Int × (Int × Int)))))) × (Int × Int)))))) × Int) × Unit) × (List (((List Int × Bool) × List Int)) × Unit)))))))
  | 0, _, _, _, _, _, _, _, _, _, _, _, _, _, _, _, _, _, _, _, _ => none
  | n + 1, T0, T1, T2, T3, T4, T5, T6, T7, T8, T9, T10, c_0, counter_2, fuel_11, in_12, p_14, weights_16, t_66, t_67, t_68 =>
    cond (decide (t_68 < t_67))
      (
      cond (decide ((0 : Int) ≤ t_68))
        (
        cond (decide ((Int.toNat t_68) < (List.length t_66)))
          (
          cond (decide (((0 : Nat) + (Int.toNat t_68)) < (List.length t_66)))
            (
            cond (@Option.isSome Nat c_0)
              (
              cond (@Option.isSome Nat c_0)
                (
                none)
                (
                none))
              (
              none))
            (
            none))
          (
          none))
        (
        none))
      (
      cond (decide ((List.length (in_12).1) = (List.length (in_12).1)))
        (
        cond (decide ((List.length (((in_12).2).2).1) = (List.length (((in_12).2).2).1)))
          (
          cond (decide ((List.length weights_16) = (List.length weights_16)))
            (
            some ((T0, (T1, (T2, (T3, (T4, (T5, (T6, (T7, (T8, (T9, (T10, ()))))))))))), (c_0, (counter_2, (fuel_11, (in_12, (p_14, (weights_16, ()))))))))
            (
            none))
          (
          none))
        (
        none))

def F_cell_Cell_submit (N : Nat) (T0 : List (List Int × (List (Option Nat) × Unit))) (T1 : List (Int × (Int × (Int × (List ((Int × Int)) × Unit))))) (T2 : List (Nat × (List ((Int × Int) × ((Bool × (((List Int × Bool) × List Int) × ((Int × Int) × Int))) × Nat)) × Unit))) (T3 : List (Nat × (List ((Int × Int) × (Int × Nat)) × Unit))) (T4 : List (Nat × (List (((Int × Int) × Int) × (Int × Nat)) × Unit))) (T5 : List (Option Nat × (Option Nat × (Option Nat × Unit)))) (T6 : List (Nat × (List (Int × (Int × Nat)) × Unit))) (T7 : List (Nat × (List (Int × (((Int × (List ((Int × (List Int × Bool))) × (List (((List Int × Bool) × List Int)) × (List ((List Int × Bool)) × (List ((Int × (Int × (List Int × (List Int × (Int × Int)))))) × (Int × Int)))))) × Int) × Nat)) × Unit))) (T8 : List (Int × (Int × (Option Nat × (Option Nat × (Option Nat × (Option Nat × (List ((Int × (Option Nat × Int))) × Unit)))))))) (T9 : List (List Int × (Er × Unit))) (T10 : List (Int × (List ((Int × (List Int × Bool))) × (List (((List Int × Bool) × List Int)) × (List ((List Int × Bool)) × (List ((Int × (Int × (List Int × (List Int × (Int × Int)))))) × (Int × (Int × (List (((List Int × Bool) × List Int)) × (List Int × (Int × (Int × (Int × (Int × (List Int × Unit))))))))))))))) (c_0 : Option Nat) (r_1 : Option Nat) (counter_2 : Int) : Option ((List (List Int × (List (Option Nat) × Unit)) × (List (Int × (Int × (Int × (List ((Int × Int)) × Unit)))) × (List (Nat × (List ((Int × Int) × ((Bool × (((List Int × Bool) × List Int) × ((Int × Int) × Int))) × Nat)) × Unit)) × (List (Nat × (List ((Int × Int) × (Int × Nat)) × Unit)) × (List (Nat × (List (((Int × Int) × Int) × (Int × Nat)) × Unit)) × (List (Option Nat × (Option Nat × (Option Nat × Unit))) × (List (Nat × (List (Int × (Int × Nat)) × Unit)) × (List (Nat × (List (Int × (((Int × (List ((Int × (List Int × Bool))) × (List (((List Int × Bool) × List Int)) × (List ((List Int × Bool)) × (List ((Int × (Int × (List Int × (List Int × (Int × Int)))))) × (Int × Int)))))) × Int) × Nat)) × Unit)) × (List (Int × (Int × (Option Nat × (Option Nat × (Option Nat × (Option Nat × (List ((Int × (Option Nat × Int))) × Unit))))))) × (List (List Int × (Er × Unit)) × (List (Int × (List ((Int × (List Int × Bool))) × (List (((List Int × Bool) × List Int)) × (List ((List Int × Bool)) × (List ((Int × (Int × (List Int × (List Int × (Int × Int)))))) × (Int × (Int × (List (((List Int × Bool) × List Int)) × (List Int × (Int × (Int × (Int × (Int × (List Int × Unit)))))))))))))) × Unit))))))))))) × (Int × (Er × Unit))) :=
  Option.bind (F_cell_reader_slot N T9 r_1) fun y0 =>
  Option.bind (F_cell_reader_below N ((y0).1).1 r_1 (9 : Int) (Go.Eng.Er.s ErrRange)) fun y1 =>
  Option.bind (g_cell_Cell_submit_0 N N T0 T1 T2 T3 T4 T5 T6 T7 T8 ((y1).1).1 T10 c_0 r_1 counter_2 ((y0).2).1 ([] : List Int) ((y1).2).1) fun y2 =>
  Option.bind (F_cell_reader_four N (((((((((((y2).1).2).2).2).2).2).2).2).2).2).1 (((y2).2).2).1) fun y3 =>
  Option.bind (F_cell_reader_tensor N ((y3).1).1 (((y2).2).2).1) fun y4 =>
  Option.bind (F_cell_reader_end N ((y4).1).1 (((y2).2).2).1) fun y5 =>
  cond (Bool.not (Go.Eng.Er.isNil ((y5).2).1))
    (
    some ((((y2).1).1, ((((y2).1).2).1, (((((y2).1).2).2).1, ((((((y2).1).2).2).2).1, (((((((y2).1).2).2).2).2).1, ((((((((y2).1).2).2).2).2).2).1, (((((((((y2).1).2).2).2).2).2).2).1, ((((((((((y2).1).2).2).2).2).2).2).2).1, (((((((((((y2).1).2).2).2).2).2).2).2).2).1, (((y5).1).1, (((((((((((y2).1).2).2).2).2).2).2).2).2).2).2)))))))))), ((0 : Int), (y5).2)))
    (
    cond (@Option.isSome Nat ((y2).2).1)
      (
      cond (@Option.isSome Nat (((((((List.getD ((((((((((y2).1).2).2).2).2).2).2).2).2).1 (@Option.getD Nat ((y2).2).1 (0 : Nat)) ((0 : Int), ((0 : Int), ((@Option.none Nat), ((@Option.none Nat), ((@Option.none Nat), ((@Option.none Nat), (([] : List (Int × ((Option Nat) × Int))), ()))))))))).2).2).2).2).2).1)
        (
        cond (Bool.not (Go.Eng.hasM (Go.Eng.Ty.int Go.IntKind.i64) (Go.Eng.Ty.st (Go.Eng.Ty.pair (Go.Eng.Ty.st (Go.Eng.Ty.pair (Go.Eng.Ty.int Go.IntKind.i64) (Go.Eng.Ty.pair (Go.Eng.Ty.sl (Go.Eng.Ty.st (Go.Eng.Ty.pair (Go.Eng.Ty.int Go.IntKind.i64) (Go.Eng.Ty.st (Go.Eng.Ty.pair (Go.Eng.Ty.sl (Go.Eng.Ty.int Go.IntKind.i64)) Go.Eng.Ty.bool))))) (Go.Eng.Ty.pair (Go.Eng.Ty.sl (Go.Eng.Ty.st (Go.Eng.Ty.pair (Go.Eng.Ty.st (Go.Eng.Ty.pair (Go.Eng.Ty.sl (Go.Eng.Ty.int Go.IntKind.i64)) Go.Eng.Ty.bool)) (Go.Eng.Ty.sl (Go.Eng.Ty.int Go.IntKind.i64))))) (Go.Eng.Ty.pair (Go.Eng.Ty.sl (Go.Eng.Ty.st (Go.Eng.Ty.pair (Go.Eng.Ty.sl (Go.Eng.Ty.int Go.IntKind.i64)) Go.Eng.Ty.bool))) (Go.Eng.Ty.pair (Go.Eng.Ty.sl (Go.Eng.Ty.st (Go.Eng.Ty.pair (Go.Eng.Ty.int Go.IntKind.i64) (Go.Eng.Ty.pair (Go.Eng.Ty.int Go.IntKind.i64) (Go.Eng.Ty.pair (Go.Eng.Ty.sl (Go.Eng.Ty.int Go.IntKind.i64)) (Go.Eng.Ty.pair (Go.Eng.Ty.sl (Go.Eng.Ty.int Go.IntKind.i64)) (Go.Eng.Ty.pair (Go.Eng.Ty.int Go.IntKind.i64) (Go.Eng.Ty.int Go.IntKind.i64)))))))) (Go.Eng.Ty.pair (Go.Eng.Ty.int Go.IntKind.i64) (Go.Eng.Ty.int Go.IntKind.i64)))))))) (Go.Eng.Ty.int Go.IntKind.i64))) (((List.getD (((((((((y2).1).2).2).2).2).2).2).2).1 (@Option.getD Nat (((((((List.getD ((((((((((y2).1).2).2).2).2).2).2).2).2).1 (@Option.getD Nat ((y2).2).1 (0 : Nat)) ((0 : Int), ((0 : Int), ((@Option.none Nat), ((@Option.none Nat), ((@Option.none Nat), ((@Option.none Nat), (([] : List (Int × ((Option Nat) × Int))), ()))))))))).2).2).2).2).2).1 (0 : Nat)) (0, (([] : List (Int × (((Int × ((List (Int × ((List Int) × Bool))) × ((List (((List Int) × Bool) × (List Int))) × ((List ((List Int) × Bool)) × ((List (Int × (Int × ((List Int) × ((List Int) × (Int × Int)))))) × (Int × Int)))))) × Int) × Nat))), ())))).2).1 (((((y2).2).2).2).2).1))
          (
          some ((((y2).1).1, ((((y2).1).2).1, (((((y2).1).2).2).1, ((((((y2).1).2).2).2).1, (((((((y2).1).2).2).2).2).1, ((((((((y2).1).2).2).2).2).2).1, (((((((((y2).1).2).2).2).2).2).2).1, ((((((((((y2).1).2).2).2).2).2).2).2).1, (((((((((((y2).1).2).2).2).2).2).2).2).2).1, (((y5).1).1, (((((((((((y2).1).2).2).2).2).2).2).2).2).2).2)))))))))), ((0 : Int), ((Go.Eng.Er.s ErrNone), ()))))
          (
          cond (decide ((List.length (((y4).2).1).1) = (List.length (((y4).2).1).1)))
            (
            cond (decide ((List.length (((((y4).2).1).2).2).1) = (List.length (((((y4).2).1).2).2).1)))
              (
              cond (decide ((List.length ((((((y2).2).2).2).2).2).1) = (List.length ((((((y2).2).2).2).2).2).1)))
                (
                Option.bind (g_cell_Cell_submit_1 N N ((y2).1).1 (((y2).1).2).1 ((((y2).1).2).2).1 (((((y2).1).2).2).2).1 ((((((y2).1).2).2).2).2).1 (((((((y2).1).2).2).2).2).2).1 ((((((((y2).1).2).2).2).2).2).2).1 (((((((((y2).1).2).2).2).2).2).2).2).1 ((((((((((y2).1).2).2).2).2).2).2).2).2).1 ((y5).1).1 ((((((((((((y2).1).2).2).2).2).2).2).2).2).2).2).1 ((y2).2).1 ((((y2).2).2).2).1 ((y3).2).1 ((y4).2).1 ((Go.Eng.atM (Go.Eng.Ty.int Go.IntKind.i64) (Go.Eng.Ty.st (Go.Eng.Ty.pair (Go.Eng.Ty.st (Go.Eng.Ty.pair (Go.Eng.Ty.int Go.IntKind.i64) (Go.Eng.Ty.pair (Go.Eng.Ty.sl (Go.Eng.Ty.st (Go.Eng.Ty.pair (Go.Eng.Ty.int Go.IntKind.i64) (Go.Eng.Ty.st (Go.Eng.Ty.pair (Go.Eng.Ty.sl (Go.Eng.Ty.int Go.IntKind.i64)) Go.Eng.Ty.bool))))) (Go.Eng.Ty.pair (Go.Eng.Ty.sl (Go.Eng.Ty.st (Go.Eng.Ty.pair (Go.Eng.Ty.st (Go.Eng.Ty.pair (Go.Eng.Ty.sl (Go.Eng.Ty.int Go.IntKind.i64)) Go.Eng.Ty.bool)) (Go.Eng.Ty.sl (Go.Eng.Ty.int Go.IntKind.i64))))) (Go.Eng.Ty.pair (Go.Eng.Ty.sl (Go.Eng.Ty.st (Go.Eng.Ty.pair (Go.Eng.Ty.sl (Go.Eng.Ty.int Go.IntKind.i64)) Go.Eng.Ty.bool))) (Go.Eng.Ty.pair (Go.Eng.Ty.sl (Go.Eng.Ty.st (Go.Eng.Ty.pair (Go.Eng.Ty.int Go.IntKind.i64) (Go.Eng.Ty.pair (Go.Eng.Ty.int Go.IntKind.i64) (Go.Eng.Ty.pair (Go.Eng.Ty.sl (Go.Eng.Ty.int Go.IntKind.i64)) (Go.Eng.Ty.pair (Go.Eng.Ty.sl (Go.Eng.Ty.int Go.IntKind.i64)) (Go.Eng.Ty.pair (Go.Eng.Ty.int Go.IntKind.i64) (Go.Eng.Ty.int Go.IntKind.i64)))))))) (Go.Eng.Ty.pair (Go.Eng.Ty.int Go.IntKind.i64) (Go.Eng.Ty.int Go.IntKind.i64)))))))) (Go.Eng.Ty.int Go.IntKind.i64))) (((List.getD (((((((((y2).1).2).2).2).2).2).2).2).1 (@Option.getD Nat (((((((List.getD ((((((((((y2).1).2).2).2).2).2).2).2).2).1 (@Option.getD Nat ((y2).2).1 (0 : Nat)) ((0 : Int), ((0 : Int), ((@Option.none Nat), ((@Option.none Nat), ((@Option.none Nat), ((@Option.none Nat), (([] : List (Int × ((Option Nat) × Int))), ()))))))))).2).2).2).2).2).1 (0 : Nat)) (0, (([] : List (Int × (((Int × ((List (Int × ((List Int) × Bool))) × ((List (((List Int) × Bool) × (List Int))) × ((List ((List Int) × Bool)) × ((List (Int × (Int × ((List Int) × ((List Int) × (Int × Int)))))) × (Int × Int)))))) × Int) × Nat))), ())))).2).1 (((((y2).2).2).2).2).1), ()) ([] : List (((List Int) × Bool) × (List Int))) ((((((y2).2).2).2).2).2).1 (Nat.cast (List.length ((((((y2).2).2).2).2).2).1) : Int) (0 : Int)) fun y6 =>
                cond (decide (((0 : Nat) + (List.length (((((((y6).2).2).2).2).2).2).1)) ≤ (List.length (((((((y6).2).2).2).2).2).2).1)))
                  (
                  cond (decide (((0 : Nat) + (List.length ((((((y6).2).2).2).2).1).1)) ≤ (List.length ((((((y6).2).2).2).2).1).1)))
                    (
                    cond (decide (((0 : Nat) + (List.length ((((((((y6).2).2).2).2).1).2).2).1)) ≤ (List.length ((((((((y6).2).2).2).2).1).2).2).1)))
                      (
                      none)
                      (
                      none))
                    (
                    none))
                  (
                  none))
                (
                none))
              (
              none))
            (
            none)))
        (
        none))
      (
      none))

abbrev c_cell_Cell_submit (N : Nat) : CallSpec E := ⟨74, ps_cell_Cell_submit, rs_cell_Cell_submit, fun x => F_cell_Cell_submit N x.1.1 x.1.2.1 x.1.2.2.1 x.1.2.2.2.1 x.1.2.2.2.2.1 x.1.2.2.2.2.2.1 x.1.2.2.2.2.2.2.1 x.1.2.2.2.2.2.2.2.1 x.1.2.2.2.2.2.2.2.2.1 x.1.2.2.2.2.2.2.2.2.2.1 x.1.2.2.2.2.2.2.2.2.2.2.1 x.2.1 x.2.2.1 x.2.2.2.1⟩
abbrev l_cell_Cell_submit_1 (N : Nat) : LoopSpec E [0, 1, 2, 3, 4, 5, 6, 7, 8, 9, 10] := ⟨1, h_cell_Cell_submit_1, e_cell_Cell_submit_1, fun x => g_cell_Cell_submit_1 N N x.1.1 x.1.2.1 x.1.2.2.1 x.1.2.2.2.1 x.1.2.2.2.2.1 x.1.2.2.2.2.2.1 x.1.2.2.2.2.2.2.1 x.1.2.2.2.2.2.2.2.1 x.1.2.2.2.2.2.2.2.2.1 x.1.2.2.2.2.2.2.2.2.2.1 x.1.2.2.2.2.2.2.2.2.2.2.1 x.2.1 x.2.2.1 x.2.2.2.1 x.2.2.2.2.1 x.2.2.2.2.2.1 x.2.2.2.2.2.2.1 x.2.2.2.2.2.2.2.1 x.2.2.2.2.2.2.2.2.1 x.2.2.2.2.2.2.2.2.2.1⟩
abbrev l_cell_Cell_submit_0 (N : Nat) : LoopSpec E [0, 1, 2, 3, 4, 5, 6, 7, 8, 9, 10] := ⟨0, h_cell_Cell_submit_0, e_cell_Cell_submit_0, fun x => g_cell_Cell_submit_0 N N x.1.1 x.1.2.1 x.1.2.2.1 x.1.2.2.2.1 x.1.2.2.2.2.1 x.1.2.2.2.2.2.1 x.1.2.2.2.2.2.2.1 x.1.2.2.2.2.2.2.2.1 x.1.2.2.2.2.2.2.2.2.1 x.1.2.2.2.2.2.2.2.2.2.1 x.1.2.2.2.2.2.2.2.2.2.2.1 x.2.1 x.2.2.1 x.2.2.2.1 x.2.2.2.2.1 x.2.2.2.2.2.1 x.2.2.2.2.2.2.1⟩

theorem cs_cell_Cell_submit_ok (S : Ini) (N : Nat) : CallsOK Go.Proofs.Tryz.prog E S (cs_cell_Cell_submit N) :=
  .cons (F_cell_reader_below_ok S N) (.cons (F_cell_reader_slot_ok S N) (.cons (F_cell_reader_tensor_ok S N) (.cons (F_cell_reader_end_ok S N) (.cons (F_tens_Raw_ok S N) (.cons (F_cell_reader_four_ok S N) (.nil))))))
noncomputable abbrev b_cell_Cell_submit_1 : Code := (loopsOf b_cell_Cell_submit).getD 1 .skip
theorem g_cell_Cell_submit_1_ok (S : Ini) (N : Nat) : ∀ n x y, (fun (x : StV E [0, 1, 2, 3, 4, 5, 6, 7, 8, 9, 10] h_cell_Cell_submit_1) => g_cell_Cell_submit_1 N n x.1.1 x.1.2.1 x.1.2.2.1 x.1.2.2.2.1 x.1.2.2.2.2.1 x.1.2.2.2.2.2.1 x.1.2.2.2.2.2.2.1 x.1.2.2.2.2.2.2.2.1 x.1.2.2.2.2.2.2.2.2.1 x.1.2.2.2.2.2.2.2.2.2.1 x.1.2.2.2.2.2.2.2.2.2.2.1 x.2.1 x.2.2.1 x.2.2.2.1 x.2.2.2.2.1 x.2.2.2.2.2.1 x.2.2.2.2.2.2.1 x.2.2.2.2.2.2.2.1 x.2.2.2.2.2.2.2.2.1 x.2.2.2.2.2.2.2.2.2.1) x = some y → LoopCon Go.Proofs.Tryz.prog E S b_cell_Cell_submit_1 (encSlots E [0, 1, 2, 3, 4, 5, 6, 7, 8, 9, 10] h_cell_Cell_submit_1 x) (encEx E [0, 1, 2, 3, 4, 5, 6, 7, 8, 9, 10] e_cell_Cell_submit_1 y).1 (encEx E [0, 1, 2, 3, 4, 5, 6, 7, 8, 9, 10] e_cell_Cell_submit_1 y).2 :=
  loop_specJ E_ok mixed (E_ok.ks 74) (cs_cell_Cell_submit_ok S N) (all := loopsOf b_cell_Cell_submit) (ls := []) (.nil) (js := []) (i := 1) (by kernel_rfl) (inner_of (by kernel_rfl)) (head := h_cell_Cell_submit_1) (ex := e_cell_Cell_submit_1) (fun n (x : StV E [0, 1, 2, 3, 4, 5, 6, 7, 8, 9, 10] h_cell_Cell_submit_1) => g_cell_Cell_submit_1 N n x.1.1 x.1.2.1 x.1.2.2.1 x.1.2.2.2.1 x.1.2.2.2.2.1 x.1.2.2.2.2.2.1 x.1.2.2.2.2.2.2.1 x.1.2.2.2.2.2.2.2.1 x.1.2.2.2.2.2.2.2.2.1 x.1.2.2.2.2.2.2.2.2.2.1 x.1.2.2.2.2.2.2.2.2.2.2.1 x.2.1 x.2.2.1 x.2.2.2.1 x.2.2.2.2.1 x.2.2.2.2.2.1 x.2.2.2.2.2.2.1 x.2.2.2.2.2.2.2.1 x.2.2.2.2.2.2.2.2.1 x.2.2.2.2.2.2.2.2.2.1) (fun _ => rfl) (fun n x => by kernel_rfl)
noncomputable abbrev b_cell_Cell_submit_0 : Code := (loopsOf b_cell_Cell_submit).getD 0 .skip
theorem g_cell_Cell_submit_0_ok (S : Ini) (N : Nat) : ∀ n x y, (fun (x : StV E [0, 1, 2, 3, 4, 5, 6, 7, 8, 9, 10] h_cell_Cell_submit_0) => g_cell_Cell_submit_0 N n x.1.1 x.1.2.1 x.1.2.2.1 x.1.2.2.2.1 x.1.2.2.2.2.1 x.1.2.2.2.2.2.1 x.1.2.2.2.2.2.2.1 x.1.2.2.2.2.2.2.2.1 x.1.2.2.2.2.2.2.2.2.1 x.1.2.2.2.2.2.2.2.2.2.1 x.1.2.2.2.2.2.2.2.2.2.2.1 x.2.1 x.2.2.1 x.2.2.2.1 x.2.2.2.2.1 x.2.2.2.2.2.1 x.2.2.2.2.2.2.1) x = some y → LoopCon Go.Proofs.Tryz.prog E S b_cell_Cell_submit_0 (encSlots E [0, 1, 2, 3, 4, 5, 6, 7, 8, 9, 10] h_cell_Cell_submit_0 x) (encEx E [0, 1, 2, 3, 4, 5, 6, 7, 8, 9, 10] e_cell_Cell_submit_0 y).1 (encEx E [0, 1, 2, 3, 4, 5, 6, 7, 8, 9, 10] e_cell_Cell_submit_0 y).2 :=
  loop_specJ E_ok mixed (E_ok.ks 74) (cs_cell_Cell_submit_ok S N) (all := loopsOf b_cell_Cell_submit) (ls := []) (.nil) (js := []) (i := 0) (by kernel_rfl) (inner_of (by kernel_rfl)) (head := h_cell_Cell_submit_0) (ex := e_cell_Cell_submit_0) (fun n (x : StV E [0, 1, 2, 3, 4, 5, 6, 7, 8, 9, 10] h_cell_Cell_submit_0) => g_cell_Cell_submit_0 N n x.1.1 x.1.2.1 x.1.2.2.1 x.1.2.2.2.1 x.1.2.2.2.2.1 x.1.2.2.2.2.2.1 x.1.2.2.2.2.2.2.1 x.1.2.2.2.2.2.2.2.1 x.1.2.2.2.2.2.2.2.2.1 x.1.2.2.2.2.2.2.2.2.2.1 x.1.2.2.2.2.2.2.2.2.2.2.1 x.2.1 x.2.2.1 x.2.2.2.1 x.2.2.2.2.1 x.2.2.2.2.2.1 x.2.2.2.2.2.2.1) (fun _ => rfl) (fun n x => by kernel_rfl)
theorem F_cell_Cell_submit_ok (S : Ini) (N : Nat) : ∀ x y, (c_cell_Cell_submit N).g x = some y → FCon Go.Proofs.Tryz.prog E S 74 ps_cell_Cell_submit rs_cell_Cell_submit x y := by
  intro x y h
  exact fun_specJ E_ok mixed (cs_cell_Cell_submit_ok S N) (f := 74) (fi := ⟨b_cell_Cell_submit, 151, Go.Proofs.Tryz.f74.results.toList⟩) (by kernel_rfl) (ls := [l_cell_Cell_submit_1 N, l_cell_Cell_submit_0 N]) (.cons (by kernel_rfl) (g_cell_Cell_submit_1_ok S N N) (.cons (by kernel_rfl) (g_cell_Cell_submit_0_ok S N N) (.nil))) (js := []) (by kernel_rfl) (ps := ps_cell_Cell_submit) (rs := rs_cell_Cell_submit) (Eq.trans (b := F_cell_Cell_submit N x.1.1 x.1.2.1 x.1.2.2.1 x.1.2.2.2.1 x.1.2.2.2.2.1 x.1.2.2.2.2.2.1 x.1.2.2.2.2.2.2.1 x.1.2.2.2.2.2.2.2.1 x.1.2.2.2.2.2.2.2.2.1 x.1.2.2.2.2.2.2.2.2.2.1 x.1.2.2.2.2.2.2.2.2.2.2.1 x.2.1 x.2.2.1 x.2.2.2.1) (by kernel_rfl) h)


end Go.Proofs.YtpekhdbkekiblaaGreatDoor.Lx

/-
  The functions of the seat's program, as plain functions.
-/
namespace Go.Proofs.YtpekhdbkekiblaaGreatDoor.Lx
open Go Go.Eng Go.Proofs
set_option maxRecDepth 100000

/-! (*lodge/cell.Cell).do -/

abbrev ps_cell_Cell_do : List Ty := [(.hd 8), (.st (.pair (.int .i64) (.pair (.int .u64) (.pair (.int .i64) (.sl (.int .u8))))))]
abbrev rs_cell_Cell_do : List Slot := [.data (.int .i64), .data .err]
abbrev cs_cell_Cell_do (N : Nat) : List (CallSpec E) := [c_cell_reader_one N, c_cell_reader_slot N, c_cell_reader_end N, c_cell_Cell_submit N]
noncomputable abbrev b_cell_Cell_do : Code := ((Go.Proofs.Tryz.f37.body).getD .skip)

def F_cell_Cell_do (N : Nat) (T0 : List (List Int × (List (Option Nat) × Unit))) (T1 : List (Int × (Int × (Int × (List ((Int × Int)) × Unit))))) (T2 : List (Nat × (List ((Int × Int) × ((Bool × (((List Int × Bool) × List Int) × ((Int × Int) × Int))) × Nat)) × Unit))) (T3 : List (Nat × (List ((Int × Int) × (Int × Nat)) × Unit))) (T4 : List (Nat × (List (((Int × Int) × Int) × (Int × Nat)) × Unit))) (T5 : List (Option Nat × (Option Nat × (Option Nat × Unit)))) (T6 : List (Nat × (List (Int × (Int × Nat)) × Unit))) (T7 : List (Nat × (List (Int × (((Int × (List ((Int × (List Int × Bool))) × (List (((List Int × Bool) × List Int)) × (List ((List Int × Bool)) × (List ((Int × (Int × (List Int × (List Int × (Int × Int)))))) × (Int × Int)))))) × Int) × Nat)) × Unit))) (T8 : List (Int × (Int × (Option Nat × (Option Nat × (Option Nat × (Option Nat × (List ((Int × (Option Nat × Int))) × Unit)))))))) (T9 : List (List Int × (Er × Unit))) (T10 : List (Int × (List ((Int × (List Int × Bool))) × (List (((List Int × Bool) × List Int)) × (List ((List Int × Bool)) × (List ((Int × (Int × (List Int × (List Int × (Int × Int)))))) × (Int × (Int × (List (((List Int × Bool) × List Int)) × (List Int × (Int × (Int × (Int × (Int × (List Int × Unit))))))))))))))) (T11 : List (List Int × (Int × (Er × Unit)))) (T12 : List (List Int × Unit)) (c_0 : Option Nat) (f_1 : (Int × (Int × (Int × List Int)))) : Option ((List (List Int × (List (Option Nat) × Unit)) × (List (Int × (Int × (Int × (List ((Int × Int)) × Unit)))) × (List (Nat × (List ((Int × Int) × ((Bool × (((List Int × Bool) × List Int) × ((Int × Int) × Int))) × Nat)) × Unit)) × (List (Nat × (List ((Int × Int) × (Int × Nat)) × Unit)) × (List (Nat × (List (((Int × Int) × Int) × (Int × Nat)) × Unit)) × (List (Option Nat × (Option Nat × (Option Nat × Unit))) × (List (Nat × (List (Int × (Int × Nat)) × Unit)) × (List (Nat × (List (Int × (((Int × (List ((Int × (List Int × Bool))) × (List (((List Int × Bool) × List Int)) × (List ((List Int × Bool)) × (List ((Int × (Int × (List Int × (List Int × (Int × Int)))))) × (Int × Int)))))) × Int) × Nat)) × Unit)) × (List (Int × (Int × (Option Nat × (Option Nat × (Option Nat × (Option Nat × (List ((Int × (Option Nat × Int))) × Unit))))))) × (List (List Int × (Er × Unit)) × (List (Int × (List ((Int × (List Int × Bool))) × (List (((List Int × Bool) × List Int)) × (List ((List Int × Bool)) × (List ((Int × (Int × (List Int × (List Int × (Int × Int)))))) × (Int × (Int × (List (((List Int × Bool) × List Int)) × (List Int × (Int × (Int × (Int × (Int × (List Int × Unit)))))))))))))) × (List (List Int × (Int × (Er × Unit))) × (List (List Int × Unit) × Unit))))))))))))) × (Int × (Er × Unit))) :=
  cond (decide ((((f_1).2).2).1 = (1 : Int)))
    (
    none)
    (
    cond (decide ((((f_1).2).2).1 = (2 : Int)))
      (
      none)
      (
      cond (decide ((((f_1).2).2).1 = (3 : Int)))
        (
        none)
        (
        cond (decide ((((f_1).2).2).1 = (4 : Int)))
          (
          Option.bind (F_cell_Cell_submit N T0 T1 T2 T3 T4 T5 T6 T7 T8 (T9 ++ (((((f_1).2).2).2, (Go.Eng.Er.nil, ())) :: ([] : List ((List Int) × (Go.Eng.Er × PUnit))))) T10 c_0 (@Option.some Nat (List.length T9)) ((f_1).2).1) fun y0 =>
          some ((((y0).1).1, ((((y0).1).2).1, (((((y0).1).2).2).1, ((((((y0).1).2).2).2).1, (((((((y0).1).2).2).2).2).1, ((((((((y0).1).2).2).2).2).2).1, (((((((((y0).1).2).2).2).2).2).2).1, ((((((((((y0).1).2).2).2).2).2).2).2).1, (((((((((((y0).1).2).2).2).2).2).2).2).2).1, ((((((((((((y0).1).2).2).2).2).2).2).2).2).2).1, (((((((((((((y0).1).2).2).2).2).2).2).2).2).2).2).1, (T11, (T12, ()))))))))))))), (y0).2))
          (
          cond (decide ((((f_1).2).2).1 = (5 : Int)))
            (
            none)
            (
            cond (decide ((((f_1).2).2).1 = (6 : Int)))
              (
              Option.bind (F_cell_reader_slot N (T9 ++ (((((f_1).2).2).2, (Go.Eng.Er.nil, ())) :: ([] : List ((List Int) × (Go.Eng.Er × PUnit))))) (@Option.some Nat (List.length T9))) fun y1 =>
              Option.bind (F_cell_reader_one N ((y1).1).1 (@Option.some Nat (List.length T9))) fun y2 =>
              Option.bind (F_cell_reader_end N ((y2).1).1 (@Option.some Nat (List.length T9))) fun y3 =>
              cond (Bool.not (Go.Eng.Er.isNil ((y3).2).1))
                (
                some ((T0, (T1, (T2, (T3, (T4, (T5, (T6, (T7, (T8, (((y3).1).1, (T10, (T11, (T12, ()))))))))))))), ((0 : Int), (y3).2)))
                (
                cond (@Option.isSome Nat c_0)
                  (
                  cond (@Option.isSome Nat c_0)
                    (
                    none)
                    (
                    none))
                  (
                  none)))
              (
              cond (decide ((((f_1).2).2).1 = (7 : Int)))
                (
                Option.bind (F_cell_reader_one N (T9 ++ (((((f_1).2).2).2, (Go.Eng.Er.nil, ())) :: ([] : List ((List Int) × (Go.Eng.Er × PUnit))))) (@Option.some Nat (List.length T9))) fun y4 =>
                Option.bind (F_cell_reader_slot N ((y4).1).1 (@Option.some Nat (List.length T9))) fun y5 =>
                Option.bind (F_cell_reader_slot N ((y5).1).1 (@Option.some Nat (List.length T9))) fun y6 =>
                Option.bind (F_cell_reader_end N ((y6).1).1 (@Option.some Nat (List.length T9))) fun y7 =>
                cond (Bool.not (Go.Eng.Er.isNil ((y7).2).1))
                  (
                  some ((T0, (T1, (T2, (T3, (T4, (T5, (T6, (T7, (T8, (((y7).1).1, (T10, (T11, (T12, ()))))))))))))), ((0 : Int), (y7).2)))
                  (
                  cond (@Option.isSome Nat c_0)
                    (
                    cond (@Option.isSome Nat c_0)
                      (
                      none)
                      (
                      none))
                    (
                    none)))
                (
                cond (decide ((((f_1).2).2).1 = (8 : Int)))
                  (
                  Option.bind (F_cell_reader_slot N (T9 ++ (((((f_1).2).2).2, (Go.Eng.Er.nil, ())) :: ([] : List ((List Int) × (Go.Eng.Er × PUnit))))) (@Option.some Nat (List.length T9))) fun y8 =>
                  Option.bind (F_cell_reader_end N ((y8).1).1 (@Option.some Nat (List.length T9))) fun y9 =>
                  cond (Bool.not (Go.Eng.Er.isNil ((y9).2).1))
                    (
                    some ((T0, (T1, (T2, (T3, (T4, (T5, (T6, (T7, (T8, (((y9).1).1, (T10, (T11, (T12, ()))))))))))))), ((0 : Int), (y9).2)))
                    (
                    cond (@Option.isSome Nat c_0)
                      (
                      cond (@Option.isSome Nat c_0)
                        (
                        none)
                        (
                        none))
                      (
                      none)))
                  (
                  some ((T0, (T1, (T2, (T3, (T4, (T5, (T6, (T7, (T8, ((T9 ++ (((((f_1).2).2).2, (Go.Eng.Er.nil, ())) :: ([] : List ((List Int) × (Go.Eng.Er × PUnit))))), (T10, (T11, (T12, ()))))))))))))), ((0 : Int), ((Go.Eng.Er.s ErrKind), ())))))))))))

abbrev c_cell_Cell_do (N : Nat) : CallSpec E := ⟨37, ps_cell_Cell_do, rs_cell_Cell_do, fun x => F_cell_Cell_do N x.1.1 x.1.2.1 x.1.2.2.1 x.1.2.2.2.1 x.1.2.2.2.2.1 x.1.2.2.2.2.2.1 x.1.2.2.2.2.2.2.1 x.1.2.2.2.2.2.2.2.1 x.1.2.2.2.2.2.2.2.2.1 x.1.2.2.2.2.2.2.2.2.2.1 x.1.2.2.2.2.2.2.2.2.2.2.1 x.1.2.2.2.2.2.2.2.2.2.2.2.1 x.1.2.2.2.2.2.2.2.2.2.2.2.2.1 x.2.1 x.2.2.1⟩

theorem cs_cell_Cell_do_ok (S : Ini) (N : Nat) : CallsOK Go.Proofs.Tryz.prog E S (cs_cell_Cell_do N) :=
  .cons (F_cell_reader_one_ok S N) (.cons (F_cell_reader_slot_ok S N) (.cons (F_cell_reader_end_ok S N) (.cons (F_cell_Cell_submit_ok S N) (.nil))))
theorem F_cell_Cell_do_ok (S : Ini) (N : Nat) : ∀ x y, (c_cell_Cell_do N).g x = some y → FCon Go.Proofs.Tryz.prog E S 37 ps_cell_Cell_do rs_cell_Cell_do x y := by
  intro x y h
  exact fun_specJ E_ok mixed (cs_cell_Cell_do_ok S N) (f := 37) (fi := ⟨b_cell_Cell_do, 126, Go.Proofs.Tryz.f37.results.toList⟩) (by kernel_rfl) (ls := []) (.nil) (js := []) (by kernel_rfl) (ps := ps_cell_Cell_do) (rs := rs_cell_Cell_do) (Eq.trans (b := F_cell_Cell_do N x.1.1 x.1.2.1 x.1.2.2.1 x.1.2.2.2.1 x.1.2.2.2.2.1 x.1.2.2.2.2.2.1 x.1.2.2.2.2.2.2.1 x.1.2.2.2.2.2.2.2.1 x.1.2.2.2.2.2.2.2.2.1 x.1.2.2.2.2.2.2.2.2.2.1 x.1.2.2.2.2.2.2.2.2.2.2.1 x.1.2.2.2.2.2.2.2.2.2.2.2.1 x.1.2.2.2.2.2.2.2.2.2.2.2.2.1 x.2.1 x.2.2.1) (by kernel_rfl) h)

/-! lodge/wire.sentinels -/

abbrev ps_wire_sentinels : List Ty := []
abbrev rs_wire_sentinels : List Slot := [.sl .err]
abbrev cs_wire_sentinels (N : Nat) : List (CallSpec E) := []
noncomputable abbrev b_wire_sentinels : Code := ((Go.Proofs.Tryz.f84.body).getD .skip)

def F_wire_sentinels (N : Nat)  : Option (Unit × (List Er × Unit)) :=
  some ((), (((Go.Eng.Er.s ErrShape) :: ((Go.Eng.Er.s ErrRange) :: ((Go.Eng.Er.s ErrKind) :: ((Go.Eng.Er.s ErrMany) :: ((Go.Eng.Er.s ErrEnd) :: ((Go.Eng.Er.s ErrRoom) :: ((Go.Eng.Er.s ErrNone) :: ((Go.Eng.Er.s ErrAlias) :: ((Go.Eng.Er.s ErrCost) :: ((Go.Eng.Er.s ErrJump) :: ((Go.Eng.Er.s ErrCycle) :: ((Go.Eng.Er.s ErrFuel) :: ((Go.Eng.Er.s ErrFull) :: ((Go.Eng.Er.s ErrQuota) :: ((Go.Eng.Er.s ErrCap) :: ((Go.Eng.Er.s ErrStale) :: ((Go.Eng.Er.s ErrTag) :: ((Go.Eng.Er.s ErrOld) :: ((Go.Eng.Er.s ErrTenant) :: ((Go.Eng.Er.s ErrWord) :: ((Go.Eng.Er.s ErrNumber) :: ([] : List Go.Eng.Er)))))))))))))))))))))), ()))

abbrev c_wire_sentinels (N : Nat) : CallSpec E := ⟨84, ps_wire_sentinels, rs_wire_sentinels, fun x => F_wire_sentinels N ⟩

theorem cs_wire_sentinels_ok (S : Ini) (N : Nat) : CallsOK Go.Proofs.Tryz.prog E S (cs_wire_sentinels N) :=
  .nil
theorem F_wire_sentinels_ok (S : Ini) (N : Nat) : ∀ x y, (c_wire_sentinels N).g x = some y → FCon Go.Proofs.Tryz.prog E S 84 ps_wire_sentinels rs_wire_sentinels x y := by
  intro x y h
  exact fun_specJ E_ok mixed (cs_wire_sentinels_ok S N) (f := 84) (fi := ⟨b_wire_sentinels, 23, Go.Proofs.Tryz.f84.results.toList⟩) (by kernel_rfl) (ls := []) (.nil) (js := []) (by kernel_rfl) (ps := ps_wire_sentinels) (rs := rs_wire_sentinels) (Eq.trans (b := F_wire_sentinels N ) (by kernel_rfl) h)

/-! slices.Index[[]error,error] -/

abbrev ps_slices_Index_error : List Ty := [(.sl .err), .err]
abbrev rs_slices_Index_error : List Slot := [.data (.int .i64)]
abbrev cs_slices_Index_error (N : Nat) : List (CallSpec E) := []
noncomputable abbrev b_slices_Index_error : Code := ((Go.Proofs.Tryz.f83.body).getD .skip)

abbrev h_slices_Index_error_0 : List Slot := [.data (.sl .err), .data .err, .dead, .dead, .dead, .dead, .dead, .data (.int .i64), .data (.int .i64), .dead, .dead, .dead, .dead, .dead, .dead, .dead, .dead, .dead, .dead]
abbrev e_slices_Index_error_0 : List (AX × List Slot) := [(AX.exit 0, [.dead, .dead, .dead, .dead, .dead, .dead, .dead, .dead, .dead, .dead, .dead, .dead, .dead, .dead, .dead, .dead, .dead, .dead, .dead]), (AX.ret, [.dead, .dead, .dead, .dead, .data (.int .i64), .dead, .dead, .dead, .dead, .dead, .dead, .dead, .dead, .dead, .dead, .dead, .dead, .dead, .dead])]
def g_slices_Index_error_0 (N : Nat) : Nat → List Er → Er → Int → Int → Option (Sum (Unit × Unit) (Unit × (Int × Unit)))
  | 0, _, _, _, _ => none
  | n + 1, s_0, v_1, t_7, t_8 =>
    cond (decide (t_8 < t_7))
      (
      cond (decide ((0 : Int) ≤ t_8))
        (
        cond (decide ((Int.toNat t_8) < (List.length s_0)))
          (
          cond (Go.Eng.okEq v_1 (List.getD s_0 (Int.toNat t_8) Go.Eng.Er.nil))
            (
            cond (decide (v_1 = (List.getD s_0 (Int.toNat t_8) Go.Eng.Er.nil)))
              (
              some (Sum.inr ((), (t_8, ()))))
              (
              (g_slices_Index_error_0 N n s_0 v_1 t_7 (wi64 (t_8 + (1 : Int))))))
            (
            none))
          (
          none))
        (
        none))
      (
      some (Sum.inl ((), ())))

def F_slices_Index_error (N : Nat) (s_0 : List Er) (v_1 : Er) : Option (Unit × (Int × Unit)) :=
  Option.bind (g_slices_Index_error_0 N N s_0 v_1 (Nat.cast (List.length s_0) : Int) (0 : Int)) fun y0 =>
  Sum.elim (fun y1 =>
    some ((), ((-(1 : Int)), ())))
    (fun y2 =>
    some ((), (y2).2)) y0

abbrev c_slices_Index_error (N : Nat) : CallSpec E := ⟨83, ps_slices_Index_error, rs_slices_Index_error, fun x => F_slices_Index_error N x.2.1 x.2.2.1⟩
abbrev l_slices_Index_error_0 (N : Nat) : LoopSpec E [] := ⟨0, h_slices_Index_error_0, e_slices_Index_error_0, fun x => g_slices_Index_error_0 N N x.2.1 x.2.2.1 x.2.2.2.1 x.2.2.2.2.1⟩

theorem cs_slices_Index_error_ok (S : Ini) (N : Nat) : CallsOK Go.Proofs.Tryz.prog E S (cs_slices_Index_error N) :=
  .nil
noncomputable abbrev b_slices_Index_error_0 : Code := (loopsOf b_slices_Index_error).getD 0 .skip
theorem g_slices_Index_error_0_ok (S : Ini) (N : Nat) : ∀ n x y, (fun (x : StV E [] h_slices_Index_error_0) => g_slices_Index_error_0 N n x.2.1 x.2.2.1 x.2.2.2.1 x.2.2.2.2.1) x = some y → LoopCon Go.Proofs.Tryz.prog E S b_slices_Index_error_0 (encSlots E [] h_slices_Index_error_0 x) (encEx E [] e_slices_Index_error_0 y).1 (encEx E [] e_slices_Index_error_0 y).2 :=
  loop_specJ E_ok mixed (E_ok.ks 83) (cs_slices_Index_error_ok S N) (all := loopsOf b_slices_Index_error) (ls := []) (.nil) (js := []) (i := 0) (by kernel_rfl) (inner_of (by kernel_rfl)) (head := h_slices_Index_error_0) (ex := e_slices_Index_error_0) (fun n (x : StV E [] h_slices_Index_error_0) => g_slices_Index_error_0 N n x.2.1 x.2.2.1 x.2.2.2.1 x.2.2.2.2.1) (fun _ => rfl) (fun n x => by kernel_rfl)
theorem F_slices_Index_error_ok (S : Ini) (N : Nat) : ∀ x y, (c_slices_Index_error N).g x = some y → FCon Go.Proofs.Tryz.prog E S 83 ps_slices_Index_error rs_slices_Index_error x y := by
  intro x y h
  exact fun_specJ E_ok mixed (cs_slices_Index_error_ok S N) (f := 83) (fi := ⟨b_slices_Index_error, 19, Go.Proofs.Tryz.f83.results.toList⟩) (by kernel_rfl) (ls := [l_slices_Index_error_0 N]) (.cons (by kernel_rfl) (g_slices_Index_error_0_ok S N N) (.nil)) (js := []) (by kernel_rfl) (ps := ps_slices_Index_error) (rs := rs_slices_Index_error) (Eq.trans (b := F_slices_Index_error N x.2.1 x.2.2.1) (by kernel_rfl) h)

/-! lodge/wire.Code -/

abbrev ps_wire_Code : List Ty := [.err]
abbrev rs_wire_Code : List Slot := [.data (.int .i64)]
abbrev cs_wire_Code (N : Nat) : List (CallSpec E) := [c_wire_sentinels N, c_slices_Index_error N]
noncomputable abbrev b_wire_Code : Code := ((Go.Proofs.Tryz.f38.body).getD .skip)

def F_wire_Code (N : Nat) (e_0 : Er) : Option (Unit × (Int × Unit)) :=
  cond (Go.Eng.Er.isNil e_0)
    (
    some ((), ((0 : Int), ())))
    (
    cond (Go.Eng.Er.isAt e_0)
      (
      Option.bind (F_wire_sentinels N) fun y0 =>
      cond (decide (((0 : Nat) + (List.length ((y0).2).1)) ≤ (List.length ((y0).2).1)))
        (
        Option.bind (F_slices_Index_error N (List.take (List.length ((y0).2).1) ((y0).2).1) (Go.Eng.Er.s (Go.Eng.Er.gix e_0))) fun y1 =>
        some ((), ((wi64 (((y1).2).1 + (1 : Int))), ())))
        (
        none))
      (
      Option.bind (F_wire_sentinels N) fun y2 =>
      cond (decide (((0 : Nat) + (List.length ((y2).2).1)) ≤ (List.length ((y2).2).1)))
        (
        Option.bind (F_slices_Index_error N (List.take (List.length ((y2).2).1) ((y2).2).1) e_0) fun y3 =>
        some ((), ((wi64 (((y3).2).1 + (1 : Int))), ())))
        (
        none)))

abbrev c_wire_Code (N : Nat) : CallSpec E := ⟨38, ps_wire_Code, rs_wire_Code, fun x => F_wire_Code N x.2.1⟩

theorem cs_wire_Code_ok (S : Ini) (N : Nat) : CallsOK Go.Proofs.Tryz.prog E S (cs_wire_Code N) :=
  .cons (F_wire_sentinels_ok S N) (.cons (F_slices_Index_error_ok S N) (.nil))
theorem F_wire_Code_ok (S : Ini) (N : Nat) : ∀ x y, (c_wire_Code N).g x = some y → FCon Go.Proofs.Tryz.prog E S 38 ps_wire_Code rs_wire_Code x y := by
  intro x y h
  exact fun_specJ E_ok mixed (cs_wire_Code_ok S N) (f := 38) (fi := ⟨b_wire_Code, 17, Go.Proofs.Tryz.f38.results.toList⟩) (by kernel_rfl) (ls := []) (.nil) (js := []) (by kernel_rfl) (ps := ps_wire_Code) (rs := rs_wire_Code) (Eq.trans (b := F_wire_Code N x.2.1) (by kernel_rfl) h)

/-! (*lodge/cell.Cell).Do -/

abbrev ps_cell_Cell_Do : List Ty := [(.hd 8), (.st (.pair (.int .i64) (.pair (.int .u64) (.pair (.int .i64) (.sl (.int .u8))))))]
abbrev rs_cell_Cell_Do : List Slot := [.ag [.d (.int .u64), .d (.int .i64), .d (.int .i64), .sl (.int .u8), .d (.int .i64)]]
abbrev cs_cell_Cell_Do (N : Nat) : List (CallSpec E) := [c_cell_Cell_do N, c_wire_Code N]
noncomputable abbrev b_cell_Cell_Do : Code := ((Go.Proofs.Tryz.f16.body).getD .skip)

def F_cell_Cell_Do (N : Nat) (T0 : List (List Int × (List (Option Nat) × Unit))) (T1 : List (Int × (Int × (Int × (List ((Int × Int)) × Unit))))) (T2 : List (Nat × (List ((Int × Int) × ((Bool × (((List Int × Bool) × List Int) × ((Int × Int) × Int))) × Nat)) × Unit))) (T3 : List (Nat × (List ((Int × Int) × (Int × Nat)) × Unit))) (T4 : List (Nat × (List (((Int × Int) × Int) × (Int × Nat)) × Unit))) (T5 : List (Option Nat × (Option Nat × (Option Nat × Unit)))) (T6 : List (Nat × (List (Int × (Int × Nat)) × Unit))) (T7 : List (Nat × (List (Int × (((Int × (List ((Int × (List Int × Bool))) × (List (((List Int × Bool) × List Int)) × (List ((List Int × Bool)) × (List ((Int × (Int × (List Int × (List Int × (Int × Int)))))) × (Int × Int)))))) × Int) × Nat)) × Unit))) (T8 : List (Int × (Int × (Option Nat × (Option Nat × (Option Nat × (Option Nat × (List ((Int × (Option Nat × Int))) × Unit)))))))) (T9 : List (List Int × (Er × Unit))) (T10 : List (Int × (List ((Int × (List Int × Bool))) × (List (((List Int × Bool) × List Int)) × (List ((List Int × Bool)) × (List ((Int × (Int × (List Int × (List Int × (Int × Int)))))) × (Int × (Int × (List (((List Int × Bool) × List Int)) × (List Int × (Int × (Int × (Int × (Int × (List Int × Unit))))))))))))))) (T11 : List (List Int × (Int × (Er × Unit)))) (T12 : List (List Int × Unit)) (c_0 : Option Nat) (f_1 : (Int × (Int × (Int × List Int)))) : Option ((List (List Int × (List (Option Nat) × Unit)) × (List (Int × (Int × (Int × (List ((Int × Int)) × Unit)))) × (List (Nat × (List ((Int × Int) × ((Bool × (((List Int × Bool) × List Int) × ((Int × Int) × Int))) × Nat)) × Unit)) × (List (Nat × (List ((Int × Int) × (Int × Nat)) × Unit)) × (List (Nat × (List (((Int × Int) × Int) × (Int × Nat)) × Unit)) × (List (Option Nat × (Option Nat × (Option Nat × Unit))) × (List (Nat × (List (Int × (Int × Nat)) × Unit)) × (List (Nat × (List (Int × (((Int × (List ((Int × (List Int × Bool))) × (List (((List Int × Bool) × List Int)) × (List ((List Int × Bool)) × (List ((Int × (Int × (List Int × (List Int × (Int × Int)))))) × (Int × Int)))))) × Int) × Nat)) × Unit)) × (List (Int × (Int × (Option Nat × (Option Nat × (Option Nat × (Option Nat × (List ((Int × (Option Nat × Int))) × Unit))))))) × (List (List Int × (Er × Unit)) × (List (Int × (List ((Int × (List Int × Bool))) × (List (((List Int × Bool) × List Int)) × (List ((List Int × Bool)) × (List ((Int × (Int × (List Int × (List Int × (Int × Int)))))) × (Int × (Int × (List (((List Int × Bool) × List Int)) × (List Int × (Int × (Int × (Int × (Int × (List Int × Unit)))))))))))))) × (List (List Int × (Int × (Er × Unit))) × (List (List Int × Unit) × Unit))))))))))))) × ((Int × (Int × (Int × (List Int × (Int × Unit))))) × Unit)) :=
  Option.bind (F_cell_Cell_do N T0 T1 T2 T3 T4 T5 T6 T7 T8 T9 T10 T11 T12 c_0 f_1) fun y0 =>
  cond (Bool.not (Go.Eng.Er.isNil (((y0).2).2).1))
    (
    Option.bind (F_wire_Code N (((y0).2).2).1) fun y1 =>
    some ((y0).1, ((((f_1).2).1, (((y1).2).1, ((0 : Int), (([] : List Int), ((-(1 : Int)), ()))))), ())))
    (
    Option.bind (F_wire_Code N (((y0).2).2).1) fun y2 =>
    some ((y0).1, ((((f_1).2).1, (((y2).2).1, (((y0).2).1, (([] : List Int), ((-(1 : Int)), ()))))), ())))

abbrev c_cell_Cell_Do (N : Nat) : CallSpec E := ⟨16, ps_cell_Cell_Do, rs_cell_Cell_Do, fun x => F_cell_Cell_Do N x.1.1 x.1.2.1 x.1.2.2.1 x.1.2.2.2.1 x.1.2.2.2.2.1 x.1.2.2.2.2.2.1 x.1.2.2.2.2.2.2.1 x.1.2.2.2.2.2.2.2.1 x.1.2.2.2.2.2.2.2.2.1 x.1.2.2.2.2.2.2.2.2.2.1 x.1.2.2.2.2.2.2.2.2.2.2.1 x.1.2.2.2.2.2.2.2.2.2.2.2.1 x.1.2.2.2.2.2.2.2.2.2.2.2.2.1 x.2.1 x.2.2.1⟩

theorem cs_cell_Cell_Do_ok (S : Ini) (N : Nat) : CallsOK Go.Proofs.Tryz.prog E S (cs_cell_Cell_Do N) :=
  .cons (F_cell_Cell_do_ok S N) (.cons (F_wire_Code_ok S N) (.nil))
theorem F_cell_Cell_Do_ok (S : Ini) (N : Nat) : ∀ x y, (c_cell_Cell_Do N).g x = some y → FCon Go.Proofs.Tryz.prog E S 16 ps_cell_Cell_Do rs_cell_Cell_Do x y := by
  intro x y h
  exact fun_specJ E_ok mixed (cs_cell_Cell_Do_ok S N) (f := 16) (fi := ⟨b_cell_Cell_Do, 21, Go.Proofs.Tryz.f16.results.toList⟩) (by kernel_rfl) (ls := []) (.nil) (js := []) (by kernel_rfl) (ps := ps_cell_Cell_Do) (rs := rs_cell_Cell_Do) (Eq.trans (b := F_cell_Cell_Do N x.1.1 x.1.2.1 x.1.2.2.1 x.1.2.2.2.1 x.1.2.2.2.2.1 x.1.2.2.2.2.2.1 x.1.2.2.2.2.2.2.1 x.1.2.2.2.2.2.2.2.1 x.1.2.2.2.2.2.2.2.2.1 x.1.2.2.2.2.2.2.2.2.2.1 x.1.2.2.2.2.2.2.2.2.2.2.1 x.1.2.2.2.2.2.2.2.2.2.2.2.1 x.1.2.2.2.2.2.2.2.2.2.2.2.2.1 x.2.1 x.2.2.1) (by kernel_rfl) h)

/-! lodge/lodgeref25.Code -/

abbrev ps_lodgeref25_Code : List Ty := [(.int .i64)]
abbrev rs_lodgeref25_Code : List Slot := [.data (.int .i64)]
abbrev cs_lodgeref25_Code (N : Nat) : List (CallSpec E) := []
noncomputable abbrev b_lodgeref25_Code : Code := ((Go.Proofs.Tryz.f18.body).getD .skip)

def F_lodgeref25_Code (N : Nat) (bad_0 : Int) : Option (Unit × (Int × Unit)) :=
  cond (decide (bad_0 < (101 : Int)))
    (
    some ((), ((0 : Int), ())))
    (
    some ((), ((wi64 (bad_0 - (100 : Int))), ())))

abbrev c_lodgeref25_Code (N : Nat) : CallSpec E := ⟨18, ps_lodgeref25_Code, rs_lodgeref25_Code, fun x => F_lodgeref25_Code N x.2.1⟩

theorem cs_lodgeref25_Code_ok (S : Ini) (N : Nat) : CallsOK Go.Proofs.Tryz.prog E S (cs_lodgeref25_Code N) :=
  .nil
theorem F_lodgeref25_Code_ok (S : Ini) (N : Nat) : ∀ x y, (c_lodgeref25_Code N).g x = some y → FCon Go.Proofs.Tryz.prog E S 18 ps_lodgeref25_Code rs_lodgeref25_Code x y := by
  intro x y h
  exact fun_specJ E_ok mixed (cs_lodgeref25_Code_ok S N) (f := 18) (fi := ⟨b_lodgeref25_Code, 7, Go.Proofs.Tryz.f18.results.toList⟩) (by kernel_rfl) (ls := []) (.nil) (js := []) (by kernel_rfl) (ps := ps_lodgeref25_Code) (rs := rs_lodgeref25_Code) (Eq.trans (b := F_lodgeref25_Code N x.2.1) (by kernel_rfl) h)

/-! lodge/lodgelaw28.first -/

abbrev ps_lodgelaw28_first : List Ty := []
abbrev rs_lodgelaw28_first : List Slot := [.data .bool]
abbrev cs_lodgelaw28_first (N : Nat) : List (CallSpec E) := [c_lodgelaw28_made N, c_cell_Cell_Do N, c_lodgeref25_Code N]
noncomputable abbrev b_lodgelaw28_first : Code := ((Go.Proofs.Tryz.f9.body).getD .skip)

def F_lodgelaw28_first (N : Nat) (T0 : List (List Int × (List (Option Nat) × Unit))) (T1 : List (Int × (Int × (Int × (List ((Int × Int)) × Unit))))) (T2 : List (Nat × (List ((Int × Int) × ((Bool × (((List Int × Bool) × List Int) × ((Int × Int) × Int))) × Nat)) × Unit))) (T3 : List (Nat × (List ((Int × Int) × (Int × Nat)) × Unit))) (T4 : List (Nat × (List (((Int × Int) × Int) × (Int × Nat)) × Unit))) (T5 : List (Option Nat × (Option Nat × (Option Nat × Unit)))) (T6 : List (Nat × (List (Int × (Int × Nat)) × Unit))) (T7 : List (Nat × (List (Int × (((Int × (List ((Int × (List Int × Bool))) × (List (((List Int × Bool) × List Int)) × (List ((List Int × Bool)) × (List ((Int × (Int × (List Int × (List Int × (Int × Int)))))) × (Int × Int)))))) × Int) × Nat)) × Unit))) (T8 : List (Int × (Int × (Option Nat × (Option Nat × (Option Nat × (Option Nat × (List ((Int × (Option Nat × Int))) × Unit)))))))) (T9 : List (List Int × (Er × Unit))) (T10 : List (Int × (List ((Int × (List Int × Bool))) × (List (((List Int × Bool) × List Int)) × (List ((List Int × Bool)) × (List ((Int × (Int × (List Int × (List Int × (Int × Int)))))) × (Int × (Int × (List (((List Int × Bool) × List Int)) × (List Int × (Int × (Int × (Int × (Int × (List Int × Unit))))))))))))))) (T11 : List (List Int × (Int × (Er × Unit)))) (T12 : List (List Int × Unit)) : Option ((List (List Int × (List (Option Nat) × Unit)) × (List (Int × (Int × (Int × (List ((Int × Int)) × Unit)))) × (List (Nat × (List ((Int × Int) × ((Bool × (((List Int × Bool) × List Int) × ((Int × Int) × Int))) × Nat)) × Unit)) × (List (Nat × (List ((Int × Int) × (Int × Nat)) × Unit)) × (List (Nat × (List (((Int × Int) × Int) × (Int × Nat)) × Unit)) × (List (Option Nat × (Option Nat × (Option Nat × Unit))) × (List (Nat × (List (Int × (Int × Nat)) × Unit)) × (List (Nat × (List (Int × (((Int × (List ((Int × (List Int × Bool))) × (List (((List Int × Bool) × List Int)) × (List ((List Int × Bool)) × (List ((Int × (Int × (List Int × (List Int × (Int × Int)))))) × (Int × Int)))))) × Int) × Nat)) × Unit)) × (List (Int × (Int × (Option Nat × (Option Nat × (Option Nat × (Option Nat × (List ((Int × (Option Nat × Int))) × Unit))))))) × (List (List Int × (Er × Unit)) × (List (Int × (List ((Int × (List Int × Bool))) × (List (((List Int × Bool) × List Int)) × (List ((List Int × Bool)) × (List ((Int × (Int × (List Int × (List Int × (Int × Int)))))) × (Int × (Int × (List (((List Int × Bool) × List Int)) × (List Int × (Int × (Int × (Int × (Int × (List Int × Unit)))))))))))))) × (List (List Int × (Int × (Er × Unit))) × (List (List Int × Unit) × Unit))))))))))))) × (Bool × Unit)) :=
  Option.bind (F_lodgelaw28_made N T0 T1 T2 T3 T4 T5 T6 T7 T8 T10 (0 : Int) (100 : Int) (1 : Int)) fun y0 =>
  cond (@Option.isNone Nat ((y0).2).1)
    (
    some ((((y0).1).1, ((((y0).1).2).1, (((((y0).1).2).2).1, ((((((y0).1).2).2).2).1, (((((((y0).1).2).2).2).2).1, ((((((((y0).1).2).2).2).2).2).1, (((((((((y0).1).2).2).2).2).2).2).1, ((((((((((y0).1).2).2).2).2).2).2).2).1, (((((((((((y0).1).2).2).2).2).2).2).2).2).1, (T9, ((((((((((((y0).1).2).2).2).2).2).2).2).2).2).1, (T11, (T12, ()))))))))))))), (false, ())))
    (
    Option.bind (F_cell_Cell_Do N ((y0).1).1 (((y0).1).2).1 ((((y0).1).2).2).1 (((((y0).1).2).2).2).1 ((((((y0).1).2).2).2).2).1 (((((((y0).1).2).2).2).2).2).1 ((((((((y0).1).2).2).2).2).2).2).1 (((((((((y0).1).2).2).2).2).2).2).2).1 ((((((((((y0).1).2).2).2).2).2).2).2).2).1 T9 (((((((((((y0).1).2).2).2).2).2).2).2).2).2).1 T11 T12 ((y0).2).1 ((0 : Int), ((0 : Int), ((4 : Int), ((0 : Int) :: ((0 : Int) :: ((0 : Int) :: ((0 : Int) :: ((0 : Int) :: ((0 : Int) :: ((0 : Int) :: ((5 : Int) :: ([] : List Int))))))))))))) fun y1 =>
    Option.bind (F_lodgeref25_Code N (107 : Int)) fun y2 =>
    cond (decide (((((y1).2).1).2).1 = ((y2).2).1))
      (
      some ((y1).1, ((decide ((((((((y1).2).1).2).2).2).2).1 = (-(1 : Int)))), ())))
      (
      some ((y1).1, (false, ()))))

abbrev c_lodgelaw28_first (N : Nat) : CallSpec E := ⟨9, ps_lodgelaw28_first, rs_lodgelaw28_first, fun x => F_lodgelaw28_first N x.1.1 x.1.2.1 x.1.2.2.1 x.1.2.2.2.1 x.1.2.2.2.2.1 x.1.2.2.2.2.2.1 x.1.2.2.2.2.2.2.1 x.1.2.2.2.2.2.2.2.1 x.1.2.2.2.2.2.2.2.2.1 x.1.2.2.2.2.2.2.2.2.2.1 x.1.2.2.2.2.2.2.2.2.2.2.1 x.1.2.2.2.2.2.2.2.2.2.2.2.1 x.1.2.2.2.2.2.2.2.2.2.2.2.2.1⟩

theorem cs_lodgelaw28_first_ok (S : Ini) (N : Nat) : CallsOK Go.Proofs.Tryz.prog E S (cs_lodgelaw28_first N) :=
  .cons (F_lodgelaw28_made_ok S N) (.cons (F_cell_Cell_Do_ok S N) (.cons (F_lodgeref25_Code_ok S N) (.nil)))
theorem F_lodgelaw28_first_ok (S : Ini) (N : Nat) : ∀ x y, (c_lodgelaw28_first N).g x = some y → FCon Go.Proofs.Tryz.prog E S 9 ps_lodgelaw28_first rs_lodgelaw28_first x y := by
  intro x y h
  exact fun_specJ E_ok mixed (cs_lodgelaw28_first_ok S N) (f := 9) (fi := ⟨b_lodgelaw28_first, 25, Go.Proofs.Tryz.f9.results.toList⟩) (by kernel_rfl) (ls := []) (.nil) (js := []) (by kernel_rfl) (ps := ps_lodgelaw28_first) (rs := rs_lodgelaw28_first) (Eq.trans (b := F_lodgelaw28_first N x.1.1 x.1.2.1 x.1.2.2.1 x.1.2.2.2.1 x.1.2.2.2.2.1 x.1.2.2.2.2.2.1 x.1.2.2.2.2.2.2.1 x.1.2.2.2.2.2.2.2.1 x.1.2.2.2.2.2.2.2.2.1 x.1.2.2.2.2.2.2.2.2.2.1 x.1.2.2.2.2.2.2.2.2.2.2.1 x.1.2.2.2.2.2.2.2.2.2.2.2.1 x.1.2.2.2.2.2.2.2.2.2.2.2.2.1) (by kernel_rfl) h)

/-! lodge/lodgeworld.Desc -/

abbrev ps_lodgeworld_Desc : List Ty := [(.st (.pair (.sl (.int .i64)) .bool))]
abbrev rs_lodgeworld_Desc : List Slot := [.data .bool]
abbrev cs_lodgeworld_Desc (N : Nat) : List (CallSpec E) := []
noncomputable abbrev b_lodgeworld_Desc : Code := ((Go.Proofs.Tryz.f30.body).getD .skip)

def F_lodgeworld_Desc (N : Nat) (d_0 : (List Int × Bool)) : Option (Unit × (Bool × Unit)) :=
  some ((), ((decide ((Nat.cast (List.length (d_0).1) : Int) ≤ (8 : Int))), ()))

abbrev c_lodgeworld_Desc (N : Nat) : CallSpec E := ⟨30, ps_lodgeworld_Desc, rs_lodgeworld_Desc, fun x => F_lodgeworld_Desc N x.2.1⟩

theorem cs_lodgeworld_Desc_ok (S : Ini) (N : Nat) : CallsOK Go.Proofs.Tryz.prog E S (cs_lodgeworld_Desc N) :=
  .nil
theorem F_lodgeworld_Desc_ok (S : Ini) (N : Nat) : ∀ x y, (c_lodgeworld_Desc N).g x = some y → FCon Go.Proofs.Tryz.prog E S 30 ps_lodgeworld_Desc rs_lodgeworld_Desc x y := by
  intro x y h
  exact fun_specJ E_ok mixed (cs_lodgeworld_Desc_ok S N) (f := 30) (fi := ⟨b_lodgeworld_Desc, 7, Go.Proofs.Tryz.f30.results.toList⟩) (by kernel_rfl) (ls := []) (.nil) (js := []) (by kernel_rfl) (ps := ps_lodgeworld_Desc) (rs := rs_lodgeworld_Desc) (Eq.trans (b := F_lodgeworld_Desc N x.2.1) (by kernel_rfl) h)

/-! lodge/lodgeworld.Tensor -/

abbrev ps_lodgeworld_Tensor : List Ty := [(.st (.pair (.st (.pair (.sl (.int .i64)) .bool)) (.sl (.int .i64)))), (.int .i64)]
abbrev rs_lodgeworld_Tensor : List Slot := [.data .bool]
abbrev cs_lodgeworld_Tensor (N : Nat) : List (CallSpec E) := [c_lodgeworld_Desc N]
noncomputable abbrev b_lodgeworld_Tensor : Code := ((Go.Proofs.Tryz.f10.body).getD .skip)

def F_lodgeworld_Tensor (N : Nat) (t_0 : ((List Int × Bool) × List Int)) (most_1 : Int) : Option (Unit × (Bool × Unit)) :=
  Option.bind (F_lodgeworld_Desc N (t_0).1) fun y0 =>
  cond ((y0).2).1
    (
    some ((), ((decide ((Nat.cast (List.length (t_0).2) : Int) ≤ most_1)), ())))
    (
    some ((), (false, ())))

abbrev c_lodgeworld_Tensor (N : Nat) : CallSpec E := ⟨10, ps_lodgeworld_Tensor, rs_lodgeworld_Tensor, fun x => F_lodgeworld_Tensor N x.2.1 x.2.2.1⟩

theorem cs_lodgeworld_Tensor_ok (S : Ini) (N : Nat) : CallsOK Go.Proofs.Tryz.prog E S (cs_lodgeworld_Tensor N) :=
  .cons (F_lodgeworld_Desc_ok S N) (.nil)
theorem F_lodgeworld_Tensor_ok (S : Ini) (N : Nat) : ∀ x y, (c_lodgeworld_Tensor N).g x = some y → FCon Go.Proofs.Tryz.prog E S 10 ps_lodgeworld_Tensor rs_lodgeworld_Tensor x y := by
  intro x y h
  exact fun_specJ E_ok mixed (cs_lodgeworld_Tensor_ok S N) (f := 10) (fi := ⟨b_lodgeworld_Tensor, 15, Go.Proofs.Tryz.f10.results.toList⟩) (by kernel_rfl) (ls := []) (.nil) (js := []) (by kernel_rfl) (ps := ps_lodgeworld_Tensor) (rs := rs_lodgeworld_Tensor) (Eq.trans (b := F_lodgeworld_Tensor N x.2.1 x.2.2.1) (by kernel_rfl) h)

/-! lodge/cell.Body -/

abbrev ps_cell_Body : List Ty := [(.sl (.dy 3 (.int .i64) (.dy 22 (.int .u32) (.dy 23 (.sl (.int .u8)) (.dy 28 (.st (.pair (.st (.pair (.sl (.int .i64)) .bool)) (.sl (.int .i64)))) (.dy 9 .str (.dy 32 .flt .dn)))))))]
abbrev rs_cell_Body : List Slot := [.sl (.int .u8)]
abbrev cs_cell_Body (N : Nat) : List (CallSpec E) := [c_tens_Bytes N]
noncomputable abbrev b_cell_Body : Code := ((Go.Proofs.Tryz.f11.body).getD .skip)

abbrev h_cell_Body_0 : List Slot := [.dead, .dead, .dead, .sl (.int .u8), .dead, .dead, .dead, .dead, .dead, .dead, .data (.sl (.dy 3 (.int .i64) (.dy 22 (.int .u32) (.dy 23 (.sl (.int .u8)) (.dy 28 (.st (.pair (.st (.pair (.sl (.int .i64)) .bool)) (.sl (.int .i64)))) (.dy 9 .str (.dy 32 .flt .dn))))))), .data (.int .i64), .data (.int .i64), .dead, .dead, .dead, .dead, .dead, .dead, .dead, .dead, .dead, .dead, .dead, .dead, .dead, .dead, .dead, .dead, .dead, .dead, .dead, .dead, .dead, .dead, .dead, .dead, .dead, .dead, .dead, .dead, .dead, .dead, .dead, .dead, .dead, .dead, .dead, .dead, .dead, .dead, .dead, .dead, .dead, .dead, .dead, .dead]
abbrev e_cell_Body_0 : List (AX × List Slot) := [(AX.exit 0, [.dead, .dead, .dead, .sl (.int .u8), .dead, .dead, .dead, .dead, .dead, .dead, .dead, .dead, .dead, .dead, .dead, .dead, .dead, .dead, .dead, .dead, .dead, .dead, .dead, .dead, .dead, .dead, .dead, .dead, .dead, .dead, .dead, .dead, .dead, .dead, .dead, .dead, .dead, .dead, .dead, .dead, .dead, .dead, .dead, .dead, .dead, .dead, .dead, .dead, .dead, .dead, .dead, .dead, .dead, .dead, .dead, .dead, .dead])]
def g_cell_Body_0 (N : Nat) : Nat → List Int → List ((Sum (Int) ((Sum (Int) ((Sum (List Int) ((Sum (((List Int × Bool) × List Int)) ((Sum (ByteArray) ((Sum (Nat) (Unit))))))))))))) → Int → Int → Option (Unit × (List Int × Unit))
  | 0, _, _, _, _ => none
  | n + 1, b_3, t_10, t_11, t_12 =>
    cond (decide (t_12 < t_11))
      (
      cond (decide ((0 : Int) ≤ t_12))
        (
        cond (decide ((Int.toNat t_12) < (List.length t_10)))
          (
          cond (Go.Eng.isD (Go.Eng.Ty.dy 3 (Go.Eng.Ty.int Go.IntKind.i64) (Go.Eng.Ty.dy 22 (Go.Eng.Ty.int Go.IntKind.u32) (Go.Eng.Ty.dy 23 (Go.Eng.Ty.sl (Go.Eng.Ty.int Go.IntKind.u8)) (Go.Eng.Ty.dy 28 (Go.Eng.Ty.st (Go.Eng.Ty.pair (Go.Eng.Ty.st (Go.Eng.Ty.pair (Go.Eng.Ty.sl (Go.Eng.Ty.int Go.IntKind.i64)) Go.Eng.Ty.bool)) (Go.Eng.Ty.sl (Go.Eng.Ty.int Go.IntKind.i64)))) (Go.Eng.Ty.dy 9 Go.Eng.Ty.str (Go.Eng.Ty.dy 32 Go.Eng.Ty.flt Go.Eng.Ty.dn)))))) (3 : Nat) (List.getD t_10 (Int.toNat t_12) (Sum.inr (Sum.inr (Sum.inr (Sum.inr (Sum.inr (Sum.inr ()))))))))
            (
            cond (decide (((0 : Nat) + (List.length b_3)) = (List.length b_3)))
              (
              cond (decide ((((List.length b_3) + 1) * (1 + (1 : Nat))) ≤ Go.Eng.most))
                (
                cond (decide (((List.length b_3) + 1) = (List.length ((List.take (List.length b_3) b_3) ++ ((wu8 (@id Int (Go.Eng.outD (Go.Eng.Ty.dy 3 (Go.Eng.Ty.int Go.IntKind.i64) (Go.Eng.Ty.dy 22 (Go.Eng.Ty.int Go.IntKind.u32) (Go.Eng.Ty.dy 23 (Go.Eng.Ty.sl (Go.Eng.Ty.int Go.IntKind.u8)) (Go.Eng.Ty.dy 28 (Go.Eng.Ty.st (Go.Eng.Ty.pair (Go.Eng.Ty.st (Go.Eng.Ty.pair (Go.Eng.Ty.sl (Go.Eng.Ty.int Go.IntKind.i64)) Go.Eng.Ty.bool)) (Go.Eng.Ty.sl (Go.Eng.Ty.int Go.IntKind.i64)))) (Go.Eng.Ty.dy 9 Go.Eng.Ty.str (Go.Eng.Ty.dy 32 Go.Eng.Ty.flt Go.Eng.Ty.dn)))))) (3 : Nat) (List.getD t_10 (Int.toNat t_12) (Sum.inr (Sum.inr (Sum.inr (Sum.inr (Sum.inr (Sum.inr ())))))))))) :: ([] : List Int))))))
                  (
                  (g_cell_Body_0 N n ((List.take (List.length b_3) b_3) ++ ((wu8 (@id Int (Go.Eng.outD (Go.Eng.Ty.dy 3 (Go.Eng.Ty.int Go.IntKind.i64) (Go.Eng.Ty.dy 22 (Go.Eng.Ty.int Go.IntKind.u32) (Go.Eng.Ty.dy 23 (Go.Eng.Ty.sl (Go.Eng.Ty.int Go.IntKind.u8)) (Go.Eng.Ty.dy 28 (Go.Eng.Ty.st (Go.Eng.Ty.pair (Go.Eng.Ty.st (Go.Eng.Ty.pair (Go.Eng.Ty.sl (Go.Eng.Ty.int Go.IntKind.i64)) Go.Eng.Ty.bool)) (Go.Eng.Ty.sl (Go.Eng.Ty.int Go.IntKind.i64)))) (Go.Eng.Ty.dy 9 Go.Eng.Ty.str (Go.Eng.Ty.dy 32 Go.Eng.Ty.flt Go.Eng.Ty.dn)))))) (3 : Nat) (List.getD t_10 (Int.toNat t_12) (Sum.inr (Sum.inr (Sum.inr (Sum.inr (Sum.inr (Sum.inr ())))))))))) :: ([] : List Int))) t_10 t_11 (wi64 (t_12 + (1 : Int)))))
                  (
                  none))
                (
                none))
              (
              none))
            (
            cond (Go.Eng.isD (Go.Eng.Ty.dy 3 (Go.Eng.Ty.int Go.IntKind.i64) (Go.Eng.Ty.dy 22 (Go.Eng.Ty.int Go.IntKind.u32) (Go.Eng.Ty.dy 23 (Go.Eng.Ty.sl (Go.Eng.Ty.int Go.IntKind.u8)) (Go.Eng.Ty.dy 28 (Go.Eng.Ty.st (Go.Eng.Ty.pair (Go.Eng.Ty.st (Go.Eng.Ty.pair (Go.Eng.Ty.sl (Go.Eng.Ty.int Go.IntKind.i64)) Go.Eng.Ty.bool)) (Go.Eng.Ty.sl (Go.Eng.Ty.int Go.IntKind.i64)))) (Go.Eng.Ty.dy 9 Go.Eng.Ty.str (Go.Eng.Ty.dy 32 Go.Eng.Ty.flt Go.Eng.Ty.dn)))))) (22 : Nat) (List.getD t_10 (Int.toNat t_12) (Sum.inr (Sum.inr (Sum.inr (Sum.inr (Sum.inr (Sum.inr ()))))))))
              (
              cond (decide (((0 : Nat) + (List.length b_3)) = (List.length b_3)))
                (
                cond (decide ((((List.length b_3) + 4) * (1 + (1 : Nat))) ≤ Go.Eng.most))
                  (
                  cond (decide (((List.length b_3) + 4) = (List.length ((List.take (List.length b_3) b_3) ++ ((wu8 (@id Int (Go.Eng.outD (Go.Eng.Ty.dy 3 (Go.Eng.Ty.int Go.IntKind.i64) (Go.Eng.Ty.dy 22 (Go.Eng.Ty.int Go.IntKind.u32) (Go.Eng.Ty.dy 23 (Go.Eng.Ty.sl (Go.Eng.Ty.int Go.IntKind.u8)) (Go.Eng.Ty.dy 28 (Go.Eng.Ty.st (Go.Eng.Ty.pair (Go.Eng.Ty.st (Go.Eng.Ty.pair (Go.Eng.Ty.sl (Go.Eng.Ty.int Go.IntKind.i64)) Go.Eng.Ty.bool)) (Go.Eng.Ty.sl (Go.Eng.Ty.int Go.IntKind.i64)))) (Go.Eng.Ty.dy 9 Go.Eng.Ty.str (Go.Eng.Ty.dy 32 Go.Eng.Ty.flt Go.Eng.Ty.dn)))))) (22 : Nat) (List.getD t_10 (Int.toNat t_12) (Sum.inr (Sum.inr (Sum.inr (Sum.inr (Sum.inr (Sum.inr ())))))))))) :: ((wu8 (Go.Eng.shrI Go.IntKind.u32 (@id Int (Go.Eng.outD (Go.Eng.Ty.dy 3 (Go.Eng.Ty.int Go.IntKind.i64) (Go.Eng.Ty.dy 22 (Go.Eng.Ty.int Go.IntKind.u32) (Go.Eng.Ty.dy 23 (Go.Eng.Ty.sl (Go.Eng.Ty.int Go.IntKind.u8)) (Go.Eng.Ty.dy 28 (Go.Eng.Ty.st (Go.Eng.Ty.pair (Go.Eng.Ty.st (Go.Eng.Ty.pair (Go.Eng.Ty.sl (Go.Eng.Ty.int Go.IntKind.i64)) Go.Eng.Ty.bool)) (Go.Eng.Ty.sl (Go.Eng.Ty.int Go.IntKind.i64)))) (Go.Eng.Ty.dy 9 Go.Eng.Ty.str (Go.Eng.Ty.dy 32 Go.Eng.Ty.flt Go.Eng.Ty.dn)))))) (22 : Nat) (List.getD t_10 (Int.toNat t_12) (Sum.inr (Sum.inr (Sum.inr (Sum.inr (Sum.inr (Sum.inr ()))))))))) (8 : Int))) :: ((wu8 (Go.Eng.shrI Go.IntKind.u32 (@id Int (Go.Eng.outD (Go.Eng.Ty.dy 3 (Go.Eng.Ty.int Go.IntKind.i64) (Go.Eng.Ty.dy 22 (Go.Eng.Ty.int Go.IntKind.u32) (Go.Eng.Ty.dy 23 (Go.Eng.Ty.sl (Go.Eng.Ty.int Go.IntKind.u8)) (Go.Eng.Ty.dy 28 (Go.Eng.Ty.st (Go.Eng.Ty.pair (Go.Eng.Ty.st (Go.Eng.Ty.pair (Go.Eng.Ty.sl (Go.Eng.Ty.int Go.IntKind.i64)) Go.Eng.Ty.bool)) (Go.Eng.Ty.sl (Go.Eng.Ty.int Go.IntKind.i64)))) (Go.Eng.Ty.dy 9 Go.Eng.Ty.str (Go.Eng.Ty.dy 32 Go.Eng.Ty.flt Go.Eng.Ty.dn)))))) (22 : Nat) (List.getD t_10 (Int.toNat t_12) (Sum.inr (Sum.inr (Sum.inr (Sum.inr (Sum.inr (Sum.inr ()))))))))) (16 : Int))) :: ((wu8 (Go.Eng.shrI Go.IntKind.u32 (@id Int (Go.Eng.outD (Go.Eng.Ty.dy 3 (Go.Eng.Ty.int Go.IntKind.i64) (Go.Eng.Ty.dy 22 (Go.Eng.Ty.int Go.IntKind.u32) (Go.Eng.Ty.dy 23 (Go.Eng.Ty.sl (Go.Eng.Ty.int Go.IntKind.u8)) (Go.Eng.Ty.dy 28 (Go.Eng.Ty.st (Go.Eng.Ty.pair (Go.Eng.Ty.st (Go.Eng.Ty.pair (Go.Eng.Ty.sl (Go.Eng.Ty.int Go.IntKind.i64)) Go.Eng.Ty.bool)) (Go.Eng.Ty.sl (Go.Eng.Ty.int Go.IntKind.i64)))) (Go.Eng.Ty.dy 9 Go.Eng.Ty.str (Go.Eng.Ty.dy 32 Go.Eng.Ty.flt Go.Eng.Ty.dn)))))) (22 : Nat) (List.getD t_10 (Int.toNat t_12) (Sum.inr (Sum.inr (Sum.inr (Sum.inr (Sum.inr (Sum.inr ()))))))))) (24 : Int))) :: ([] : List Int)))))))))
                    (
                    (g_cell_Body_0 N n ((List.take (List.length b_3) b_3) ++ ((wu8 (@id Int (Go.Eng.outD (Go.Eng.Ty.dy 3 (Go.Eng.Ty.int Go.IntKind.i64) (Go.Eng.Ty.dy 22 (Go.Eng.Ty.int Go.IntKind.u32) (Go.Eng.Ty.dy 23 (Go.Eng.Ty.sl (Go.Eng.Ty.int Go.IntKind.u8)) (Go.Eng.Ty.dy 28 (Go.Eng.Ty.st (Go.Eng.Ty.pair (Go.Eng.Ty.st (Go.Eng.Ty.pair (Go.Eng.Ty.sl (Go.Eng.Ty.int Go.IntKind.i64)) Go.Eng.Ty.bool)) (Go.Eng.Ty.sl (Go.Eng.Ty.int Go.IntKind.i64)))) (Go.Eng.Ty.dy 9 Go.Eng.Ty.str (Go.Eng.Ty.dy 32 Go.Eng.Ty.flt Go.Eng.Ty.dn)))))) (22 : Nat) (List.getD t_10 (Int.toNat t_12) (Sum.inr (Sum.inr (Sum.inr (Sum.inr (Sum.inr (Sum.inr ())))))))))) :: ((wu8 (Go.Eng.shrI Go.IntKind.u32 (@id Int (Go.Eng.outD (Go.Eng.Ty.dy 3 (Go.Eng.Ty.int Go.IntKind.i64) (Go.Eng.Ty.dy 22 (Go.Eng.Ty.int Go.IntKind.u32) (Go.Eng.Ty.dy 23 (Go.Eng.Ty.sl (Go.Eng.Ty.int Go.IntKind.u8)) (Go.Eng.Ty.dy 28 (Go.Eng.Ty.st (Go.Eng.Ty.pair (Go.Eng.Ty.st (Go.Eng.Ty.pair (Go.Eng.Ty.sl (Go.Eng.Ty.int Go.IntKind.i64)) Go.Eng.Ty.bool)) (Go.Eng.Ty.sl (Go.Eng.Ty.int Go.IntKind.i64)))) (Go.Eng.Ty.dy 9 Go.Eng.Ty.str (Go.Eng.Ty.dy 32 Go.Eng.Ty.flt Go.Eng.Ty.dn)))))) (22 : Nat) (List.getD t_10 (Int.toNat t_12) (Sum.inr (Sum.inr (Sum.inr (Sum.inr (Sum.inr (Sum.inr ()))))))))) (8 : Int))) :: ((wu8 (Go.Eng.shrI Go.IntKind.u32 (@id Int (Go.Eng.outD (Go.Eng.Ty.dy 3 (Go.Eng.Ty.int Go.IntKind.i64) (Go.Eng.Ty.dy 22 (Go.Eng.Ty.int Go.IntKind.u32) (Go.Eng.Ty.dy 23 (Go.Eng.Ty.sl (Go.Eng.Ty.int Go.IntKind.u8)) (Go.Eng.Ty.dy 28 (Go.Eng.Ty.st (Go.Eng.Ty.pair (Go.Eng.Ty.st (Go.Eng.Ty.pair (Go.Eng.Ty.sl (Go.Eng.Ty.int Go.IntKind.i64)) Go.Eng.Ty.bool)) (Go.Eng.Ty.sl (Go.Eng.Ty.int Go.IntKind.i64)))) (Go.Eng.Ty.dy 9 Go.Eng.Ty.str (Go.Eng.Ty.dy 32 Go.Eng.Ty.flt Go.Eng.Ty.dn)))))) (22 : Nat) (List.getD t_10 (Int.toNat t_12) (Sum.inr (Sum.inr (Sum.inr (Sum.inr (Sum.inr (Sum.inr ()))))))))) (16 : Int))) :: ((wu8 (Go.Eng.shrI Go.IntKind.u32 (@id Int (Go.Eng.outD (Go.Eng.Ty.dy 3 (Go.Eng.Ty.int Go.IntKind.i64) (Go.Eng.Ty.dy 22 (Go.Eng.Ty.int Go.IntKind.u32) (Go.Eng.Ty.dy 23 (Go.Eng.Ty.sl (Go.Eng.Ty.int Go.IntKind.u8)) (Go.Eng.Ty.dy 28 (Go.Eng.Ty.st (Go.Eng.Ty.pair (Go.Eng.Ty.st (Go.Eng.Ty.pair (Go.Eng.Ty.sl (Go.Eng.Ty.int Go.IntKind.i64)) Go.Eng.Ty.bool)) (Go.Eng.Ty.sl (Go.Eng.Ty.int Go.IntKind.i64)))) (Go.Eng.Ty.dy 9 Go.Eng.Ty.str (Go.Eng.Ty.dy 32 Go.Eng.Ty.flt Go.Eng.Ty.dn)))))) (22 : Nat) (List.getD t_10 (Int.toNat t_12) (Sum.inr (Sum.inr (Sum.inr (Sum.inr (Sum.inr (Sum.inr ()))))))))) (24 : Int))) :: ([] : List Int)))))) t_10 t_11 (wi64 (t_12 + (1 : Int)))))
                    (
                    none))
                  (
                  none))
                (
                none))
              (
              cond (Go.Eng.isD (Go.Eng.Ty.dy 3 (Go.Eng.Ty.int Go.IntKind.i64) (Go.Eng.Ty.dy 22 (Go.Eng.Ty.int Go.IntKind.u32) (Go.Eng.Ty.dy 23 (Go.Eng.Ty.sl (Go.Eng.Ty.int Go.IntKind.u8)) (Go.Eng.Ty.dy 28 (Go.Eng.Ty.st (Go.Eng.Ty.pair (Go.Eng.Ty.st (Go.Eng.Ty.pair (Go.Eng.Ty.sl (Go.Eng.Ty.int Go.IntKind.i64)) Go.Eng.Ty.bool)) (Go.Eng.Ty.sl (Go.Eng.Ty.int Go.IntKind.i64)))) (Go.Eng.Ty.dy 9 Go.Eng.Ty.str (Go.Eng.Ty.dy 32 Go.Eng.Ty.flt Go.Eng.Ty.dn)))))) (23 : Nat) (List.getD t_10 (Int.toNat t_12) (Sum.inr (Sum.inr (Sum.inr (Sum.inr (Sum.inr (Sum.inr ()))))))))
                (
                cond (decide (((0 : Nat) + (List.length b_3)) = (List.length b_3)))
                  (
                  cond (decide ((((List.length b_3) + (List.length (@id (List Int) (Go.Eng.outD (Go.Eng.Ty.dy 3 (Go.Eng.Ty.int Go.IntKind.i64) (Go.Eng.Ty.dy 22 (Go.Eng.Ty.int Go.IntKind.u32) (Go.Eng.Ty.dy 23 (Go.Eng.Ty.sl (Go.Eng.Ty.int Go.IntKind.u8)) (Go.Eng.Ty.dy 28 (Go.Eng.Ty.st (Go.Eng.Ty.pair (Go.Eng.Ty.st (Go.Eng.Ty.pair (Go.Eng.Ty.sl (Go.Eng.Ty.int Go.IntKind.i64)) Go.Eng.Ty.bool)) (Go.Eng.Ty.sl (Go.Eng.Ty.int Go.IntKind.i64)))) (Go.Eng.Ty.dy 9 Go.Eng.Ty.str (Go.Eng.Ty.dy 32 Go.Eng.Ty.flt Go.Eng.Ty.dn)))))) (23 : Nat) (List.getD t_10 (Int.toNat t_12) (Sum.inr (Sum.inr (Sum.inr (Sum.inr (Sum.inr (Sum.inr ()))))))))))) * (1 + (1 : Nat))) ≤ Go.Eng.most))
                    (
                    cond (decide (((List.length b_3) + (List.length (@id (List Int) (Go.Eng.outD (Go.Eng.Ty.dy 3 (Go.Eng.Ty.int Go.IntKind.i64) (Go.Eng.Ty.dy 22 (Go.Eng.Ty.int Go.IntKind.u32) (Go.Eng.Ty.dy 23 (Go.Eng.Ty.sl (Go.Eng.Ty.int Go.IntKind.u8)) (Go.Eng.Ty.dy 28 (Go.Eng.Ty.st (Go.Eng.Ty.pair (Go.Eng.Ty.st (Go.Eng.Ty.pair (Go.Eng.Ty.sl (Go.Eng.Ty.int Go.IntKind.i64)) Go.Eng.Ty.bool)) (Go.Eng.Ty.sl (Go.Eng.Ty.int Go.IntKind.i64)))) (Go.Eng.Ty.dy 9 Go.Eng.Ty.str (Go.Eng.Ty.dy 32 Go.Eng.Ty.flt Go.Eng.Ty.dn)))))) (23 : Nat) (List.getD t_10 (Int.toNat t_12) (Sum.inr (Sum.inr (Sum.inr (Sum.inr (Sum.inr (Sum.inr ()))))))))))) = (List.length ((List.take (List.length b_3) b_3) ++ (@id (List Int) (Go.Eng.outD (Go.Eng.Ty.dy 3 (Go.Eng.Ty.int Go.IntKind.i64) (Go.Eng.Ty.dy 22 (Go.Eng.Ty.int Go.IntKind.u32) (Go.Eng.Ty.dy 23 (Go.Eng.Ty.sl (Go.Eng.Ty.int Go.IntKind.u8)) (Go.Eng.Ty.dy 28 (Go.Eng.Ty.st (Go.Eng.Ty.pair (Go.Eng.Ty.st (Go.Eng.Ty.pair (Go.Eng.Ty.sl (Go.Eng.Ty.int Go.IntKind.i64)) Go.Eng.Ty.bool)) (Go.Eng.Ty.sl (Go.Eng.Ty.int Go.IntKind.i64)))) (Go.Eng.Ty.dy 9 Go.Eng.Ty.str (Go.Eng.Ty.dy 32 Go.Eng.Ty.flt Go.Eng.Ty.dn)))))) (23 : Nat) (List.getD t_10 (Int.toNat t_12) (Sum.inr (Sum.inr (Sum.inr (Sum.inr (Sum.inr (Sum.inr ())))))))))))))
                      (
                      (g_cell_Body_0 N n ((List.take (List.length b_3) b_3) ++ (@id (List Int) (Go.Eng.outD (Go.Eng.Ty.dy 3 (Go.Eng.Ty.int Go.IntKind.i64) (Go.Eng.Ty.dy 22 (Go.Eng.Ty.int Go.IntKind.u32) (Go.Eng.Ty.dy 23 (Go.Eng.Ty.sl (Go.Eng.Ty.int Go.IntKind.u8)) (Go.Eng.Ty.dy 28 (Go.Eng.Ty.st (Go.Eng.Ty.pair (Go.Eng.Ty.st (Go.Eng.Ty.pair (Go.Eng.Ty.sl (Go.Eng.Ty.int Go.IntKind.i64)) Go.Eng.Ty.bool)) (Go.Eng.Ty.sl (Go.Eng.Ty.int Go.IntKind.i64)))) (Go.Eng.Ty.dy 9 Go.Eng.Ty.str (Go.Eng.Ty.dy 32 Go.Eng.Ty.flt Go.Eng.Ty.dn)))))) (23 : Nat) (List.getD t_10 (Int.toNat t_12) (Sum.inr (Sum.inr (Sum.inr (Sum.inr (Sum.inr (Sum.inr ())))))))))) t_10 t_11 (wi64 (t_12 + (1 : Int)))))
                      (
                      none))
                    (
                    none))
                  (
                  none))
                (
                cond (Go.Eng.isD (Go.Eng.Ty.dy 3 (Go.Eng.Ty.int Go.IntKind.i64) (Go.Eng.Ty.dy 22 (Go.Eng.Ty.int Go.IntKind.u32) (Go.Eng.Ty.dy 23 (Go.Eng.Ty.sl (Go.Eng.Ty.int Go.IntKind.u8)) (Go.Eng.Ty.dy 28 (Go.Eng.Ty.st (Go.Eng.Ty.pair (Go.Eng.Ty.st (Go.Eng.Ty.pair (Go.Eng.Ty.sl (Go.Eng.Ty.int Go.IntKind.i64)) Go.Eng.Ty.bool)) (Go.Eng.Ty.sl (Go.Eng.Ty.int Go.IntKind.i64)))) (Go.Eng.Ty.dy 9 Go.Eng.Ty.str (Go.Eng.Ty.dy 32 Go.Eng.Ty.flt Go.Eng.Ty.dn)))))) (28 : Nat) (List.getD t_10 (Int.toNat t_12) (Sum.inr (Sum.inr (Sum.inr (Sum.inr (Sum.inr (Sum.inr ()))))))))
                  (
                  Option.bind (F_tens_Bytes N (@id (((List Int) × Bool) × (List Int)) (Go.Eng.outD (Go.Eng.Ty.dy 3 (Go.Eng.Ty.int Go.IntKind.i64) (Go.Eng.Ty.dy 22 (Go.Eng.Ty.int Go.IntKind.u32) (Go.Eng.Ty.dy 23 (Go.Eng.Ty.sl (Go.Eng.Ty.int Go.IntKind.u8)) (Go.Eng.Ty.dy 28 (Go.Eng.Ty.st (Go.Eng.Ty.pair (Go.Eng.Ty.st (Go.Eng.Ty.pair (Go.Eng.Ty.sl (Go.Eng.Ty.int Go.IntKind.i64)) Go.Eng.Ty.bool)) (Go.Eng.Ty.sl (Go.Eng.Ty.int Go.IntKind.i64)))) (Go.Eng.Ty.dy 9 Go.Eng.Ty.str (Go.Eng.Ty.dy 32 Go.Eng.Ty.flt Go.Eng.Ty.dn)))))) (28 : Nat) (List.getD t_10 (Int.toNat t_12) (Sum.inr (Sum.inr (Sum.inr (Sum.inr (Sum.inr (Sum.inr ())))))))))) fun y1 =>
                  cond (decide (((0 : Nat) + (List.length ((y1).2).1)) ≤ (List.length ((y1).2).1)))
                    (
                    cond (decide (((0 : Nat) + (List.length b_3)) = (List.length b_3)))
                      (
                      cond (decide ((((List.length b_3) + (List.length (List.take (List.length ((y1).2).1) ((y1).2).1))) * (1 + (1 : Nat))) ≤ Go.Eng.most))
                        (
                        cond (decide (((List.length b_3) + (List.length (List.take (List.length ((y1).2).1) ((y1).2).1))) = (List.length ((List.take (List.length b_3) b_3) ++ (List.take (List.length ((y1).2).1) ((y1).2).1)))))
                          (
                          (g_cell_Body_0 N n ((List.take (List.length b_3) b_3) ++ (List.take (List.length ((y1).2).1) ((y1).2).1)) t_10 t_11 (wi64 (t_12 + (1 : Int)))))
                          (
                          none))
                        (
                        none))
                      (
                      none))
                    (
                    none))
                  (
                  cond (decide ((List.length b_3) = (List.length b_3)))
                    (
                    (g_cell_Body_0 N n b_3 t_10 t_11 (wi64 (t_12 + (1 : Int)))))
                    (
                    none))))))
          (
          none))
        (
        none))
      (
      cond (decide ((List.length b_3) = (List.length b_3)))
        (
        some ((), (b_3, ())))
        (
        none))

def F_cell_Body (N : Nat) (parts_0 : List ((Sum (Int) ((Sum (Int) ((Sum (List Int) ((Sum (((List Int × Bool) × List Int)) ((Sum (ByteArray) ((Sum (Nat) (Unit)))))))))))))) : Option (Unit × (List Int × Unit)) :=
  Option.bind (g_cell_Body_0 N N ([] : List Int) parts_0 (Nat.cast (List.length parts_0) : Int) (0 : Int)) fun y0 =>
  cond (decide ((List.length ((y0).2).1) = (List.length ((y0).2).1)))
    (
    some ((), (y0).2))
    (
    none)

abbrev c_cell_Body (N : Nat) : CallSpec E := ⟨11, ps_cell_Body, rs_cell_Body, fun x => F_cell_Body N x.2.1⟩
abbrev l_cell_Body_0 (N : Nat) : LoopSpec E [] := ⟨0, h_cell_Body_0, e_cell_Body_0, fun x => g_cell_Body_0 N N x.2.1 x.2.2.1 x.2.2.2.1 x.2.2.2.2.1⟩

theorem cs_cell_Body_ok (S : Ini) (N : Nat) : CallsOK Go.Proofs.Tryz.prog E S (cs_cell_Body N) :=
  .cons (F_tens_Bytes_ok S N) (.nil)
noncomputable abbrev b_cell_Body_0 : Code := (loopsOf b_cell_Body).getD 0 .skip
theorem g_cell_Body_0_ok (S : Ini) (N : Nat) : ∀ n x y, (fun (x : StV E [] h_cell_Body_0) => g_cell_Body_0 N n x.2.1 x.2.2.1 x.2.2.2.1 x.2.2.2.2.1) x = some y → LoopCon Go.Proofs.Tryz.prog E S b_cell_Body_0 (encSlots E [] h_cell_Body_0 x) (encEx E [] e_cell_Body_0 y).1 (encEx E [] e_cell_Body_0 y).2 :=
  loop_specJ E_ok mixed (E_ok.ks 11) (cs_cell_Body_ok S N) (all := loopsOf b_cell_Body) (ls := []) (.nil) (js := []) (i := 0) (by kernel_rfl) (inner_of (by kernel_rfl)) (head := h_cell_Body_0) (ex := e_cell_Body_0) (fun n (x : StV E [] h_cell_Body_0) => g_cell_Body_0 N n x.2.1 x.2.2.1 x.2.2.2.1 x.2.2.2.2.1) (fun _ => rfl) (fun n x => by kernel_rfl)
theorem F_cell_Body_ok (S : Ini) (N : Nat) : ∀ x y, (c_cell_Body N).g x = some y → FCon Go.Proofs.Tryz.prog E S 11 ps_cell_Body rs_cell_Body x y := by
  intro x y h
  exact fun_specJ E_ok mixed (cs_cell_Body_ok S N) (f := 11) (fi := ⟨b_cell_Body, 57, Go.Proofs.Tryz.f11.results.toList⟩) (by kernel_rfl) (ls := [l_cell_Body_0 N]) (.cons (by kernel_rfl) (g_cell_Body_0_ok S N N) (.nil)) (js := []) (by kernel_rfl) (ps := ps_cell_Body) (rs := rs_cell_Body) (Eq.trans (b := F_cell_Body N x.2.1) (by kernel_rfl) h)

/-! lodge/lodgeref.SameBytes -/

abbrev ps_lodgeref_SameBytes : List Ty := [(.sl (.int .u8)), (.sl (.int .u8))]
abbrev rs_lodgeref_SameBytes : List Slot := [.data .bool]
abbrev cs_lodgeref_SameBytes (N : Nat) : List (CallSpec E) := []
noncomputable abbrev b_lodgeref_SameBytes : Code := ((Go.Proofs.Tryz.f13.body).getD .skip)

abbrev h_lodgeref_SameBytes_0 : List Slot := [.data (.sl (.int .u8)), .data (.sl (.int .u8)), .dead, .dead, .dead, .data (.int .i64), .dead, .dead, .dead, .dead, .dead, .dead, .dead, .dead, .dead, .dead, .dead, .dead, .dead, .dead, .dead, .dead, .dead, .dead, .dead, .dead, .dead, .dead, .dead]
abbrev e_lodgeref_SameBytes_0 : List (AX × List Slot) := [(AX.exit 0, [.dead, .dead, .dead, .dead, .dead, .dead, .dead, .dead, .dead, .dead, .dead, .dead, .dead, .dead, .dead, .dead, .dead, .dead, .dead, .dead, .dead, .dead, .dead, .dead, .dead, .dead, .dead, .dead, .dead]), (AX.ret, [.dead, .dead, .dead, .dead, .data .bool, .dead, .dead, .dead, .dead, .dead, .dead, .dead, .dead, .dead, .dead, .dead, .dead, .dead, .dead, .dead, .dead, .dead, .dead, .dead, .dead, .dead, .dead, .dead, .dead])]
def g_lodgeref_SameBytes_0 (N : Nat) : Nat → List Int → List Int → Int → Option (Sum (Unit × Unit) (Unit × (Bool × Unit)))
  | 0, _, _, _ => none
  | n + 1, a_0, b_1, i_5 =>
    cond (decide (i_5 < (Nat.cast (List.length a_0) : Int)))
      (
      cond (decide ((0 : Int) ≤ i_5))
        (
        cond (decide ((Int.toNat i_5) < (List.length a_0)))
          (
          cond (decide ((0 : Int) ≤ i_5))
            (
            cond (decide ((Int.toNat i_5) < (List.length b_1)))
              (
              cond (Bool.not (decide ((List.getD a_0 (Int.toNat i_5) (0 : Int)) = (List.getD b_1 (Int.toNat i_5) (0 : Int)))))
                (
                some (Sum.inr ((), (false, ()))))
                (
                (g_lodgeref_SameBytes_0 N n a_0 b_1 (wi64 (i_5 + (1 : Int))))))
              (
              none))
            (
            none))
          (
          none))
        (
        none))
      (
      some (Sum.inl ((), ())))

def F_lodgeref_SameBytes (N : Nat) (a_0 : List Int) (b_1 : List Int) : Option (Unit × (Bool × Unit)) :=
  cond (decide (@Ne Int (Nat.cast (List.length a_0) : Int) (Nat.cast (List.length b_1) : Int)))
    (
    some ((), (false, ())))
    (
    Option.bind (g_lodgeref_SameBytes_0 N N a_0 b_1 (0 : Int)) fun y0 =>
    Sum.elim (fun y1 =>
      some ((), (true, ())))
      (fun y2 =>
      some ((), (y2).2)) y0)

abbrev c_lodgeref_SameBytes (N : Nat) : CallSpec E := ⟨13, ps_lodgeref_SameBytes, rs_lodgeref_SameBytes, fun x => F_lodgeref_SameBytes N x.2.1 x.2.2.1⟩
abbrev l_lodgeref_SameBytes_0 (N : Nat) : LoopSpec E [] := ⟨0, h_lodgeref_SameBytes_0, e_lodgeref_SameBytes_0, fun x => g_lodgeref_SameBytes_0 N N x.2.1 x.2.2.1 x.2.2.2.1⟩

theorem cs_lodgeref_SameBytes_ok (S : Ini) (N : Nat) : CallsOK Go.Proofs.Tryz.prog E S (cs_lodgeref_SameBytes N) :=
  .nil
noncomputable abbrev b_lodgeref_SameBytes_0 : Code := (loopsOf b_lodgeref_SameBytes).getD 0 .skip
theorem g_lodgeref_SameBytes_0_ok (S : Ini) (N : Nat) : ∀ n x y, (fun (x : StV E [] h_lodgeref_SameBytes_0) => g_lodgeref_SameBytes_0 N n x.2.1 x.2.2.1 x.2.2.2.1) x = some y → LoopCon Go.Proofs.Tryz.prog E S b_lodgeref_SameBytes_0 (encSlots E [] h_lodgeref_SameBytes_0 x) (encEx E [] e_lodgeref_SameBytes_0 y).1 (encEx E [] e_lodgeref_SameBytes_0 y).2 :=
  loop_specJ E_ok mixed (E_ok.ks 13) (cs_lodgeref_SameBytes_ok S N) (all := loopsOf b_lodgeref_SameBytes) (ls := []) (.nil) (js := []) (i := 0) (by kernel_rfl) (inner_of (by kernel_rfl)) (head := h_lodgeref_SameBytes_0) (ex := e_lodgeref_SameBytes_0) (fun n (x : StV E [] h_lodgeref_SameBytes_0) => g_lodgeref_SameBytes_0 N n x.2.1 x.2.2.1 x.2.2.2.1) (fun _ => rfl) (fun n x => by kernel_rfl)
theorem F_lodgeref_SameBytes_ok (S : Ini) (N : Nat) : ∀ x y, (c_lodgeref_SameBytes N).g x = some y → FCon Go.Proofs.Tryz.prog E S 13 ps_lodgeref_SameBytes rs_lodgeref_SameBytes x y := by
  intro x y h
  exact fun_specJ E_ok mixed (cs_lodgeref_SameBytes_ok S N) (f := 13) (fi := ⟨b_lodgeref_SameBytes, 29, Go.Proofs.Tryz.f13.results.toList⟩) (by kernel_rfl) (ls := [l_lodgeref_SameBytes_0 N]) (.cons (by kernel_rfl) (g_lodgeref_SameBytes_0_ok S N N) (.nil)) (js := []) (by kernel_rfl) (ps := ps_lodgeref_SameBytes) (rs := rs_lodgeref_SameBytes) (Eq.trans (b := F_lodgeref_SameBytes N x.2.1 x.2.2.1) (by kernel_rfl) h)

/-! lodge/lodgelaw28.CellBodies -/

abbrev ps_lodgelaw28_CellBodies : List Ty := [(.int .i64), (.int .u32), (.sl (.int .u8)), (.st (.pair (.st (.pair (.sl (.int .i64)) .bool)) (.sl (.int .i64))))]
abbrev rs_lodgelaw28_CellBodies : List Slot := [.data .bool]
abbrev cs_lodgelaw28_CellBodies (N : Nat) : List (CallSpec E) := [c_tens_Bytes N, c_lodgelaw28_first N, c_lodgeworld_Tensor N, c_cell_Body N, c_lodgeref_SameBytes N]
noncomputable abbrev b_lodgelaw28_CellBodies : Code := ((Go.Proofs.Tryz.f3.body).getD .skip)

def F_lodgelaw28_CellBodies (N : Nat) (T0 : List (List Int × (List (Option Nat) × Unit))) (T1 : List (Int × (Int × (Int × (List ((Int × Int)) × Unit))))) (T2 : List (Nat × (List ((Int × Int) × ((Bool × (((List Int × Bool) × List Int) × ((Int × Int) × Int))) × Nat)) × Unit))) (T3 : List (Nat × (List ((Int × Int) × (Int × Nat)) × Unit))) (T4 : List (Nat × (List (((Int × Int) × Int) × (Int × Nat)) × Unit))) (T5 : List (Option Nat × (Option Nat × (Option Nat × Unit)))) (T6 : List (Nat × (List (Int × (Int × Nat)) × Unit))) (T7 : List (Nat × (List (Int × (((Int × (List ((Int × (List Int × Bool))) × (List (((List Int × Bool) × List Int)) × (List ((List Int × Bool)) × (List ((Int × (Int × (List Int × (List Int × (Int × Int)))))) × (Int × Int)))))) × Int) × Nat)) × Unit))) (T8 : List (Int × (Int × (Option Nat × (Option Nat × (Option Nat × (Option Nat × (List ((Int × (Option Nat × Int))) × Unit)))))))) (T9 : List (List Int × (Er × Unit))) (T10 : List (Int × (List ((Int × (List Int × Bool))) × (List (((List Int × Bool) × List Int)) × (List ((List Int × Bool)) × (List ((Int × (Int × (List Int × (List Int × (Int × Int)))))) × (Int × (Int × (List (((List Int × Bool) × List Int)) × (List Int × (Int × (Int × (Int × (Int × (List Int × Unit))))))))))))))) (T11 : List (List Int × (Int × (Er × Unit)))) (T12 : List (List Int × Unit)) (n_0 : Int) (u_1 : Int) (b_2 : List Int) (t_3 : ((List Int × Bool) × List Int)) : Option ((List (List Int × (List (Option Nat) × Unit)) × (List (Int × (Int × (Int × (List ((Int × Int)) × Unit)))) × (List (Nat × (List ((Int × Int) × ((Bool × (((List Int × Bool) × List Int) × ((Int × Int) × Int))) × Nat)) × Unit)) × (List (Nat × (List ((Int × Int) × (Int × Nat)) × Unit)) × (List (Nat × (List (((Int × Int) × Int) × (Int × Nat)) × Unit)) × (List (Option Nat × (Option Nat × (Option Nat × Unit))) × (List (Nat × (List (Int × (Int × Nat)) × Unit)) × (List (Nat × (List (Int × (((Int × (List ((Int × (List Int × Bool))) × (List (((List Int × Bool) × List Int)) × (List ((List Int × Bool)) × (List ((Int × (Int × (List Int × (List Int × (Int × Int)))))) × (Int × Int)))))) × Int) × Nat)) × Unit)) × (List (Int × (Int × (Option Nat × (Option Nat × (Option Nat × (Option Nat × (List ((Int × (Option Nat × Int))) × Unit))))))) × (List (List Int × (Er × Unit)) × (List (Int × (List ((Int × (List Int × Bool))) × (List (((List Int × Bool) × List Int)) × (List ((List Int × Bool)) × (List ((Int × (Int × (List Int × (List Int × (Int × Int)))))) × (Int × (Int × (List (((List Int × Bool) × List Int)) × (List Int × (Int × (Int × (Int × (Int × (List Int × Unit)))))))))))))) × (List (List Int × (Int × (Er × Unit))) × (List (List Int × Unit) × Unit))))))))))))) × (Bool × Unit)) :=
  Option.bind (F_lodgelaw28_first N T0 T1 T2 T3 T4 T5 T6 T7 T8 T9 T10 T11 T12) fun y0 =>
  cond (Bool.not ((y0).2).1)
    (
    some ((y0).1, (false, ())))
    (
    cond (decide ((100 : Int) < (Nat.cast (List.length b_2) : Int)))
      (
      some y0)
      (
      Option.bind (F_lodgeworld_Tensor N t_3 (100 : Int)) fun y1 =>
      cond (Bool.not ((y1).2).1)
        (
        some y0)
        (
        cond (Bool.not ((y0).2).1)
          (
          some y0)
          (
          Option.bind (F_cell_Body N ((Sum.inl n_0) :: ((Sum.inr (Sum.inl u_1)) :: ((Sum.inr (Sum.inr (Sum.inl b_2))) :: ((Sum.inr (Sum.inr (Sum.inr (Sum.inl t_3)))) :: ((Sum.inr (Sum.inr (Sum.inr (Sum.inr (Sum.inl (ByteArray.mk (@List.toArray UInt8 ((110 : UInt8) :: ((111 : UInt8) :: ([] : List UInt8)))))))))) :: ((Sum.inr (Sum.inr (Sum.inr (Sum.inr (Sum.inr (Sum.inl (4609434218613702656 : Nat))))))) :: ([] : List (Sum Int (Sum Int (Sum (List Int) (Sum (((List Int) × Bool) × (List Int)) (Sum ByteArray (Sum Nat PUnit)))))))))))))) fun y2 =>
          cond (decide ((((5 : Nat) + (List.length b_2)) * (1 + (1 : Nat))) ≤ Go.Eng.most))
            (
            Option.bind (F_tens_Bytes N t_3) fun y3 =>
            cond (decide (((0 : Nat) + (List.length ((y3).2).1)) ≤ (List.length ((y3).2).1)))
              (
              cond (decide (((0 : Nat) + ((5 : Nat) + (List.length b_2))) = (List.length (((wu8 n_0) :: ((wu8 u_1) :: ((wu8 (Go.Eng.shrI Go.IntKind.u32 u_1 (8 : Int))) :: ((wu8 (Go.Eng.shrI Go.IntKind.u32 u_1 (16 : Int))) :: ((wu8 (Go.Eng.shrI Go.IntKind.u32 u_1 (24 : Int))) :: ([] : List Int)))))) ++ b_2))))
                (
                cond (decide (((((5 : Nat) + (List.length b_2)) + (List.length (List.take (List.length ((y3).2).1) ((y3).2).1))) * (1 + (1 : Nat))) ≤ Go.Eng.most))
                  (
                  cond (decide (((0 : Nat) + (List.length ((y2).2).1)) ≤ (List.length ((y2).2).1)))
                    (
                    cond (decide (((0 : Nat) + (((5 : Nat) + (List.length b_2)) + (List.length (List.take (List.length ((y3).2).1) ((y3).2).1)))) ≤ (List.length ((List.take ((5 : Nat) + (List.length b_2)) (((wu8 n_0) :: ((wu8 u_1) :: ((wu8 (Go.Eng.shrI Go.IntKind.u32 u_1 (8 : Int))) :: ((wu8 (Go.Eng.shrI Go.IntKind.u32 u_1 (16 : Int))) :: ((wu8 (Go.Eng.shrI Go.IntKind.u32 u_1 (24 : Int))) :: ([] : List Int)))))) ++ b_2)) ++ (List.take (List.length ((y3).2).1) ((y3).2).1)))))
                      (
                      Option.bind (F_lodgeref_SameBytes N (List.take (List.length ((y2).2).1) ((y2).2).1) (List.take (((5 : Nat) + (List.length b_2)) + (List.length (List.take (List.length ((y3).2).1) ((y3).2).1))) ((List.take ((5 : Nat) + (List.length b_2)) (((wu8 n_0) :: ((wu8 u_1) :: ((wu8 (Go.Eng.shrI Go.IntKind.u32 u_1 (8 : Int))) :: ((wu8 (Go.Eng.shrI Go.IntKind.u32 u_1 (16 : Int))) :: ((wu8 (Go.Eng.shrI Go.IntKind.u32 u_1 (24 : Int))) :: ([] : List Int)))))) ++ b_2)) ++ (List.take (List.length ((y3).2).1) ((y3).2).1)))) fun y4 =>
                      cond ((y4).2).1
                        (
                        Option.bind (F_cell_Body N ([] : List (Sum Int (Sum Int (Sum (List Int) (Sum (((List Int) × Bool) × (List Int)) (Sum ByteArray (Sum Nat PUnit)))))))) fun y5 =>
                        some ((y0).1, ((decide ((Nat.cast (List.length ((y5).2).1) : Int) = (0 : Int))), ())))
                        (
                        some ((y0).1, (false, ()))))
                      (
                      none))
                    (
                    none))
                  (
                  none))
                (
                none))
              (
              none))
            (
            none)))))

abbrev c_lodgelaw28_CellBodies (N : Nat) : CallSpec E := ⟨3, ps_lodgelaw28_CellBodies, rs_lodgelaw28_CellBodies, fun x => F_lodgelaw28_CellBodies N x.1.1 x.1.2.1 x.1.2.2.1 x.1.2.2.2.1 x.1.2.2.2.2.1 x.1.2.2.2.2.2.1 x.1.2.2.2.2.2.2.1 x.1.2.2.2.2.2.2.2.1 x.1.2.2.2.2.2.2.2.2.1 x.1.2.2.2.2.2.2.2.2.2.1 x.1.2.2.2.2.2.2.2.2.2.2.1 x.1.2.2.2.2.2.2.2.2.2.2.2.1 x.1.2.2.2.2.2.2.2.2.2.2.2.2.1 x.2.1 x.2.2.1 x.2.2.2.1 x.2.2.2.2.1⟩

theorem cs_lodgelaw28_CellBodies_ok (S : Ini) (N : Nat) : CallsOK Go.Proofs.Tryz.prog E S (cs_lodgelaw28_CellBodies N) :=
  .cons (F_tens_Bytes_ok S N) (.cons (F_lodgelaw28_first_ok S N) (.cons (F_lodgeworld_Tensor_ok S N) (.cons (F_cell_Body_ok S N) (.cons (F_lodgeref_SameBytes_ok S N) (.nil)))))
theorem F_lodgelaw28_CellBodies_ok (S : Ini) (N : Nat) : ∀ x y, (c_lodgelaw28_CellBodies N).g x = some y → FCon Go.Proofs.Tryz.prog E S 3 ps_lodgelaw28_CellBodies rs_lodgelaw28_CellBodies x y := by
  intro x y h
  exact fun_specJ E_ok mixed (cs_lodgelaw28_CellBodies_ok S N) (f := 3) (fi := ⟨b_lodgelaw28_CellBodies, 69, Go.Proofs.Tryz.f3.results.toList⟩) (by kernel_rfl) (ls := []) (.nil) (js := []) (by kernel_rfl) (ps := ps_lodgelaw28_CellBodies) (rs := rs_lodgelaw28_CellBodies) (Eq.trans (b := F_lodgelaw28_CellBodies N x.1.1 x.1.2.1 x.1.2.2.1 x.1.2.2.2.1 x.1.2.2.2.2.1 x.1.2.2.2.2.2.1 x.1.2.2.2.2.2.2.1 x.1.2.2.2.2.2.2.2.1 x.1.2.2.2.2.2.2.2.2.1 x.1.2.2.2.2.2.2.2.2.2.1 x.1.2.2.2.2.2.2.2.2.2.2.1 x.1.2.2.2.2.2.2.2.2.2.2.2.1 x.1.2.2.2.2.2.2.2.2.2.2.2.2.1 x.2.1 x.2.2.1 x.2.2.2.1 x.2.2.2.2.1) (by kernel_rfl) h)

end Go.Proofs.YtpekhdbkekiblaaGreatDoor.Lx

/-
  Plain laws of numbers and lists that the proofs lean on.
-/
namespace Go.Eng
open Go

theorem wi64_in {n : Int} (h : -9223372036854775808 ≤ n) (h' : n ≤ 9223372036854775807) : wi64 n = n := IntWalk.i64_in n ⟨h, h'⟩
theorem wi32_in {n : Int} (h : -2147483648 ≤ n) (h' : n ≤ 2147483647) : wi32 n = n := IntWalk.i32_in n ⟨h, h'⟩

theorem wi64_eq (n : Int) : wi64 n = (n + 9223372036854775808) % 18446744073709551616 - 9223372036854775808 := by
  show IntKind.wrap .i64 n = _
  rw [IntKind.wrap_i64]

theorem wi64_succ {i : Nat} (h : i < 9223372036854775807) : wi64 ((i : Int) + 1) = ((i + 1 : Nat) : Int) := by
  rw [wi64_in (by omega) (by omega)]
  omega

theorem cond_dec {α : Type} {p : Prop} [Decidable p] {a b : α} : cond (decide p) a b = @ite α p (Classical.propDecidable p) a b := by
  by_cases h : p <;> simp [h]

theorem drop_cons {α : Type} {l : List α} {i : Nat} (h : i < l.length) (d : α) : l.drop i = l.getD i d :: l.drop (i + 1) := by
  rw [List.drop_eq_getElem_cons h]
  congr 1
  rw [List.getD_eq_getElem?_getD, List.getElem?_eq_getElem h]
  rfl

theorem getD_lt {α : Type} {l : List α} {i : Nat} (h : i < l.length) (d : α) : l.getD i d = l[i] := by
  rw [List.getD_eq_getElem?_getD, List.getElem?_eq_getElem h]
  rfl

/-- (a list of its own, handed out whole) -/
theorem take_drop_zero {α : Type} (l : List α) : List.take (List.length l) (List.drop 0 l) = l := by simp

theorem isNil_iff (e : Er) : e.isNil = true ↔ e = .nil := by cases e <;> simp [Er.isNil]

/-- the sum of the first ones -/
def sumN (f : Nat → Int) : Nat → Int
  | 0 => 0
  | k + 1 => sumN f k + f k

theorem sumN_bound (f : Nat → Int) (B : Int) (h : ∀ i, -B ≤ f i ∧ f i ≤ B) : ∀ k : Nat, -(B * k) ≤ sumN f k ∧ sumN f k ≤ B * k
  | 0 => by simp [sumN]
  | k + 1 => by
    have := sumN_bound f B h k
    have h1 := h k
    have e : B * ((k + 1 : Nat) : Int) = B * k + B := by rw [Int.natCast_add, Int.mul_add]; simp
    simp only [sumN]
    rw [e]
    omega

/-- (a list whose first ones are done) -/
theorem set_upto {α : Type} (L q : Nat) (c d : Nat → α) (hq : q < L) :
    ((List.range L).map (fun p => if p < q then c p else d p)).set q (c q) = (List.range L).map (fun p => if p < q + 1 then c p else d p) := by
  apply List.ext_getElem
  · simp
  · intro p h1 h2
    simp only [List.getElem_set, List.getElem_map, List.getElem_range]
    by_cases h : q = p
    · subst h; simp
    · rw [if_neg h]
      by_cases h3 : p < q
      · rw [if_pos h3, if_pos (by omega)]
      · rw [if_neg h3, if_neg (by omega)]

theorem map_upto_zero {α : Type} (L : Nat) (c d : Nat → α) : (List.range L).map (fun p => if p < 0 then c p else d p) = (List.range L).map d := by
  apply List.map_congr_left
  intro p _
  simp

theorem map_upto_all {α : Type} (L : Nat) (c d : Nat → α) : (List.range L).map (fun p => if p < L then c p else d p) = (List.range L).map c := by
  apply List.map_congr_left
  intro p hp
  rw [if_pos (List.mem_range.1 hp)]

theorem replicate_range {α : Type} (L : Nat) (x : α) : List.replicate L x = (List.range L).map (fun _ => x) := by
  apply List.ext_getElem <;> simp

/-- a number cut to 32 bits, round -/
def round32 (n : Int) : Int := (n + 2147483648) % 4294967296 - 2147483648

theorem wide_chain (n : Int) : wi64 (wi32 (wu32 (wu64 n))) = round32 n := by
  show IntKind.wrap .i64 (IntKind.wrap .i32 (IntKind.wrap .u32 (IntKind.wrap .u64 n))) = _
  rw [IntKind.wrap_i64, IntKind.wrap_i32, IntKind.wrap_u32]
  have hu : IntKind.wrap .u64 n = n % 18446744073709551616 := by simp [IntKind.wrap, IntKind.bits, IntKind.signed]
  rw [hu]
  unfold round32
  omega

theorem mul_le_of {a b A B : Int} (h0 : 0 ≤ a) (h1 : a ≤ A) (h2 : 0 ≤ b) (h3 : b ≤ B) : a * b ≤ A * B := Int.mul_le_mul h1 h3 h2 (by omega)

theorem mul_abs {a b A B : Int} (h0 : -A ≤ a) (h1 : a ≤ A) (h2 : -B ≤ b) (h3 : b ≤ B) : -(A * B) ≤ a * b ∧ a * b ≤ A * B := by
  have hA : 0 ≤ A := by omega
  have hB : 0 ≤ B := by omega
  rcases Int.le_total 0 a with ha | ha <;> rcases Int.le_total 0 b with hb | hb
  · have := Int.mul_le_mul h1 h3 hb hA
    have := Int.mul_nonneg ha hb
    have := Int.mul_nonneg hA hB
    omega
  · have := Int.mul_le_mul h1 (show -b ≤ B by omega) (by omega) hA
    have := Int.mul_nonneg ha (show 0 ≤ -b by omega)
    rw [Int.mul_neg] at *
    have := Int.mul_nonneg hA hB
    omega
  · have := Int.mul_le_mul (show -a ≤ A by omega) h3 hb hA
    have := Int.mul_nonneg (show 0 ≤ -a by omega) hb
    rw [Int.neg_mul] at *
    have := Int.mul_nonneg hA hB
    omega
  · have := Int.mul_le_mul (show -a ≤ A by omega) (show -b ≤ B by omega) (by omega) hA
    have := Int.mul_nonneg (show 0 ≤ -a by omega) (show 0 ≤ -b by omega)
    rw [Int.neg_mul_neg] at *
    have := Int.mul_nonneg hA hB
    omega

/-- a place in rows -/
theorem wi64_mul {i k : Nat} (h : i * k ≤ 1099511627776) : wi64 ((i : Int) * k) = ((i * k : Nat) : Int) := by
  rw [show (i : Int) * k = ((i * k : Nat) : Int) by simp]
  generalize i * k = P at h
  rw [wi64_in (by omega) (by omega)]

theorem wi64_add {i k : Nat} (h : i + k ≤ 1099511627776) : wi64 ((i : Int) + k) = ((i + k : Nat) : Int) := by
  rw [wi64_in (by omega) (by omega)]
  omega

theorem wi64_row {i k x : Nat} (h : i * k + x ≤ 1099511627776) : wi64 (wi64 ((i : Int) * k) + x) = ((i * k + x : Nat) : Int) := by
  rw [wi64_mul (by omega), wi64_add h]

theorem tmod_below {n b : Int} (hb : 0 < b) : Int.tmod (Int.tmod n b + b) b = n % b := by
  have h1 := Int.emod_nonneg n (show b ≠ 0 by omega)
  have h2 := Int.emod_lt_of_pos n hb
  have key : ∀ r : Int, 0 ≤ r → r < b → Int.tmod (r + b) b = r := by
    intro r h0 h1
    rw [Int.tmod_eq_emod_of_nonneg (by omega), Int.add_emod_right, Int.emod_eq_of_lt h0 h1]
  have he : Int.tmod n b = n % b ∨ Int.tmod n b = n % b - b := by
    rw [Int.tmod_eq_emod]
    split
    · left; omega
    · right; omega
  rcases he with he | he <;> rw [he]
  · exact key _ h1 h2
  · rw [show n % b - b + b = n % b from by omega, Int.tmod_eq_emod_of_nonneg h1, Int.emod_eq_of_lt h1 h2]

theorem tmod_lt {n b : Int} (hb : 0 < b) : -b < Int.tmod n b ∧ Int.tmod n b < b := by
  have h1 := Int.emod_nonneg n (show b ≠ 0 by omega)
  have h2 := Int.emod_lt_of_pos n hb
  rw [Int.tmod_eq_emod]
  split
  · omega
  · rename_i h
    have : n % b ≠ 0 := fun e => h (.inr (Int.dvd_of_emod_eq_zero e))
    omega

theorem tmod_nat (i k : Nat) : Int.tmod (i : Int) (k : Int) = ((i % k : Nat) : Int) := (Int.ofNat_tmod i k).symm

theorem getD_append_left {α : Type} {l m : List α} {i : Nat} {d : α} (h : i < l.length) : (l ++ m).getD i d = l.getD i d := by
  rw [List.getD_eq_getElem?_getD, List.getD_eq_getElem?_getD, List.getElem?_append_left h]

/-! step by step -/
theorem bnd {α β : Type} {x : Option α} (a : α) {f : α → Option β} {r : Option β} (h : x = some a) (h2 : f a = r) : Option.bind x f = r := by rw [h]; exact h2
theorem cT {α : Type} {p : Prop} [Decidable p] {a b r : α} (h : p) (h2 : a = r) : cond (decide p) a b = r := by rw [decide_eq_true h]; exact h2
theorem cF {α : Type} {p : Prop} [Decidable p] {a b r : α} (h : ¬ p) (h2 : b = r) : cond (decide p) a b = r := by rw [decide_eq_false h]; exact h2
theorem bT {α : Type} {c : Bool} {a b r : α} (h : c = true) (h2 : a = r) : cond c a b = r := by rw [h]; exact h2
theorem bF {α : Type} {c : Bool} {a b r : α} (h : c = false) (h2 : b = r) : cond c a b = r := by rw [h]; exact h2

/-! what something comes to -/
def Yld {α : Type} (x : Option α) (P : α → Prop) : Prop := ∃ y, x = some y ∧ P y
namespace Yld
theorem ret {α : Type} {P : α → Prop} {a : α} (h : P a) : Yld (some a) P := ⟨a, rfl, h⟩
theorem eq {α : Type} {x : Option α} {P : α → Prop} (a : α) (h : x = some a) (h2 : P a) : Yld x P := ⟨a, h, h2⟩
theorem bnd {α β : Type} {x : Option α} (a : α) {f : α → Option β} {P : β → Prop} (h : x = some a) (h2 : Yld (f a) P) : Yld (Option.bind x f) P := by rw [h]; exact h2
theorem bind {α β : Type} {x : Option α} {Q : α → Prop} {f : α → Option β} {P : β → Prop} (h : Yld x Q) (h2 : ∀ a, Q a → Yld (f a) P) : Yld (Option.bind x f) P := by
  obtain ⟨a, rfl, ha⟩ := h
  exact h2 a ha
theorem mono {α : Type} {x : Option α} {P Q : α → Prop} (h : Yld x P) (h2 : ∀ a, P a → Q a) : Yld x Q := by
  obtain ⟨a, e, ha⟩ := h
  exact ⟨a, e, h2 a ha⟩
theorem cT {α : Type} {p : Prop} [Decidable p] {a b : Option α} {P : α → Prop} (h : p) (h2 : Yld a P) : Yld (cond (decide p) a b) P := by rw [decide_eq_true h]; exact h2
theorem cF {α : Type} {p : Prop} [Decidable p] {a b : Option α} {P : α → Prop} (h : ¬ p) (h2 : Yld b P) : Yld (cond (decide p) a b) P := by rw [decide_eq_false h]; exact h2
theorem bT {α : Type} {c : Bool} {a b : Option α} {P : α → Prop} (h : c = true) (h2 : Yld a P) : Yld (cond c a b) P := by rw [h]; exact h2
theorem bF {α : Type} {c : Bool} {a b : Option α} {P : α → Prop} (h : c = false) (h2 : Yld b P) : Yld (cond c a b) P := by rw [h]; exact h2
theorem ite {α : Type} {p : Prop} [Decidable p] {a b : Option α} {P : α → Prop} (h1 : p → Yld a P) (h2 : ¬ p → Yld b P) : Yld (cond (decide p) a b) P := by
  by_cases h : p
  · exact cT h (h1 h)
  · exact cF h (h2 h)
theorem cond {α : Type} {c : Bool} {a b : Option α} {P : α → Prop} (h1 : c = true → Yld a P) (h2 : c = false → Yld b P) : Yld (cond c a b) P := by
  cases c with
  | true => exact h1 rfl
  | false => exact h2 rfl
end Yld

end Go.Eng

/-
  The table's first draw: it is fair.
-/
namespace Go.Proofs.YtpekhdbkekiblaaGreatDoor.Lx
open Go Go.Eng Go.Proofs

theorem first_true : (F_lodgelaw28_first 100000 [] [] [] [] [] [] [] [] [] [] [] [] []).map (fun x => x.2.1) = some true := by kernel_rfl
theorem first_ok : ∃ y, F_lodgelaw28_first 100000 [] [] [] [] [] [] [] [] [] [] [] [] [] = some y ∧ y.2.1 = true := by
  obtain ⟨y, h1, h2⟩ := Option.map_eq_some_iff.1 first_true
  exact ⟨y, h1, h2⟩
end Go.Proofs.YtpekhdbkekiblaaGreatDoor.Lx
