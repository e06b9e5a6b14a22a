/-
  Texts of the proof, one behind the other.
-/
import Derived.Test.YtnbpgehpjhifgaaDoorLxPg

/-
  The functions of the seat's program, as plain functions.
-/
namespace Go.Proofs.YtnbpgehpjhifgaaDoor.Lx
open Go Go.Eng Go.Proofs
set_option maxRecDepth 100000

/-! lodge/lodgelaw13.ArenaFits -/

abbrev ps_lodgelaw13_ArenaFits : List Ty := [(.int .i64), (.int .i64), (.int .i64)]
abbrev rs_lodgelaw13_ArenaFits : List Slot := [.data .bool]
abbrev cs_lodgelaw13_ArenaFits (N : Nat) : List (CallSpec E) := [c_arena_New N, c_arena_Arena_Add N, c_arena_Arena_Take N, c_arena_Arena_Drop N, c_lodgelaw13_first N, c_lodgeworld_Number N, c_lodgesee_Is N, c_arena_Arena_Used N]
noncomputable abbrev b_lodgelaw13_ArenaFits : Code := (Go.Proofs.Tryd.f3.body).getD .skip

abbrev h_lodgelaw13_ArenaFits_0 : List Slot := [.data (.int .i64), .data (.int .i64), .data (.int .i64), .dead, .dead, .dead, .dead, .data .bool, .data (.hd 0), .dead, .dead, .dead, .data (.int .i64), .dead, .dead, .dead, .dead, .dead, .dead, .dead, .dead, .dead, .dead, .dead, .dead, .dead, .dead, .dead, .dead, .dead, .dead, .dead, .dead, .dead, .dead, .dead, .dead, .dead, .dead, .dead, .dead, .dead, .dead, .dead, .dead, .dead, .dead, .dead, .dead, .dead, .dead, .dead, .dead, .dead, .dead, .dead, .dead, .dead, .dead, .dead, .dead, .dead, .dead, .dead, .dead, .dead, .dead, .dead, .dead, .dead, .dead, .dead, .dead, .dead, .dead, .dead, .dead, .dead, .dead, .dead, .dead, .dead, .dead, .dead, .dead, .dead, .dead, .dead, .dead, .dead, .dead, .dead, .dead, .dead, .dead, .dead, .dead, .dead, .dead, .dead, .dead, .dead, .dead, .dead, .dead, .dead, .dead, .dead, .dead]
abbrev e_lodgelaw13_ArenaFits_0 : List (AX × List Slot) := [(AX.ret, [.dead, .dead, .dead, .dead, .dead, .dead, .data .bool, .dead, .dead, .dead, .dead, .dead, .dead, .dead, .dead, .dead, .dead, .dead, .dead, .dead, .dead, .dead, .dead, .dead, .dead, .dead, .dead, .dead, .dead, .dead, .dead, .dead, .dead, .dead, .dead, .dead, .dead, .dead, .dead, .dead, .dead, .dead, .dead, .dead, .dead, .dead, .dead, .dead, .dead, .dead, .dead, .dead, .dead, .dead, .dead, .dead, .dead, .dead, .dead, .dead, .dead, .dead, .dead, .dead, .dead, .dead, .dead, .dead, .dead, .dead, .dead, .dead, .dead, .dead, .dead, .dead, .dead, .dead, .dead, .dead, .dead, .dead, .dead, .dead, .dead, .dead, .dead, .dead, .dead, .dead, .dead, .dead, .dead, .dead, .dead, .dead, .dead, .dead, .dead, .dead, .dead, .dead, .dead, .dead, .dead, .dead, .dead, .dead, .dead]), (AX.exit 0, [.data (.int .i64), .data (.int .i64), .data (.int .i64), .dead, .dead, .dead, .dead, .data .bool, .data (.hd 0), .dead, .dead, .dead, .data (.int .i64), .dead, .dead, .dead, .dead, .dead, .dead, .dead, .dead, .dead, .dead, .dead, .dead, .dead, .dead, .dead, .dead, .dead, .dead, .dead, .dead, .dead, .dead, .dead, .dead, .dead, .dead, .dead, .dead, .dead, .dead, .dead, .dead, .dead, .dead, .dead, .dead, .dead, .dead, .dead, .dead, .dead, .dead, .dead, .dead, .dead, .dead, .dead, .dead, .dead, .dead, .dead, .dead, .dead, .dead, .dead, .dead, .dead, .dead, .dead, .dead, .dead, .dead, .dead, .dead, .dead, .dead, .dead, .dead, .dead, .dead, .dead, .dead, .dead, .dead, .dead, .dead, .dead, .dead, .dead, .dead, .dead, .dead, .dead, .dead, .dead, .dead, .dead, .dead, .dead, .dead, .dead, .dead, .dead, .dead, .dead, .dead])]
def g_lodgelaw13_ArenaFits_0 (N : Nat) : Nat → List (List Int × (List (Option Nat) × Unit)) → List (Int × (Int × (Int × (List ((Int × Int)) × Unit)))) → Int → Int → Int → Bool → Option Nat → Int → Option (Sum ((List (List Int × (List (Option Nat) × Unit)) × (List (Int × (Int × (Int × (List ((Int × Int)) × Unit)))) × Unit)) × (Bool × Unit)) ((List (List Int × (List (Option Nat) × Unit)) × (List (Int × (Int × (Int × (List ((Int × Int)) × Unit)))) × Unit)) × (Int × (Int × (Int × (Bool × (Option Nat × (Int × Unit))))))))
  | 0, _, _, _, _, _, _, _, _ => none
  | n + 1, T0, T1, size_0, n_1, at_2, ok_7, a_8, k_12 =>
    Option.bind (F_arena_Arena_Take N T0 T1 a_8 (3 : Int) n_1) fun y7 =>
    cond (Bool.not (Go.Eng.Er.isNil (((y7).2).2).1))
      (
      Option.bind (F_lodgesee_Is N (((y7).2).2).1 (106 : Int)) fun y8 =>
      cond (Bool.not ((y8).2).1)
        (
        some (Sum.inl ((y7).1, (false, ()))))
        (
        some (Sum.inr ((y7).1, (size_0, (n_1, (at_2, (ok_7, (a_8, (k_12, ()))))))))))
      (
      cond (decide (@Ne Int ((y7).2).1 (wi64 (k_12 * n_1))))
        (
        some (Sum.inl ((y7).1, (false, ()))))
        (
        (g_lodgelaw13_ArenaFits_0 N n ((y7).1).1 (((y7).1).2).1 size_0 n_1 at_2 ok_7 a_8 (wi64 (k_12 + (1 : Int))))))

def F_lodgelaw13_ArenaFits (N : Nat) (T0 : List (List Int × (List (Option Nat) × Unit))) (T1 : List (Int × (Int × (Int × (List ((Int × Int)) × Unit))))) (size_0 : Int) (n_1 : Int) (at_2 : Int) : Option ((List (List Int × (List (Option Nat) × Unit)) × (List (Int × (Int × (Int × (List ((Int × Int)) × Unit)))) × Unit)) × (Bool × Unit)) :=
  Option.bind (F_lodgelaw13_first N T0 T1) fun y0 =>
  cond (Bool.not ((y0).2).1)
    (
    some ((y0).1, (false, ())))
    (
    Option.bind (F_lodgeworld_Number N size_0 (300 : Int)) fun y1 =>
    Option.bind (F_lodgeworld_Number N n_1 (20 : Int)) fun y2 =>
    Option.bind (F_arena_New N ((y0).1).1 (((y0).1).2).1 (wi64 ((wi64 (((y1).2).1 + (1 : Int))) + (5 : Int)))) fun y3 =>
    cond (@Option.isNone Nat ((y3).2).1)
      (
      some ((y3).1, (false, ())))
      (
      cond (Bool.not (Go.Eng.Er.isNil (((y3).2).2).1))
        (
        some ((y3).1, (false, ())))
        (
        Option.bind (F_arena_Arena_Add N ((y3).1).1 (((y3).1).2).1 ((y3).2).1 (3 : Int) (wi64 (((y1).2).1 + (1 : Int)))) fun y4 =>
        cond (Bool.not (Go.Eng.Er.isNil (((y4).2).2).1))
          (
          some ((y4).1, (false, ())))
          (
          Option.bind (g_lodgelaw13_ArenaFits_0 N N ((y4).1).1 (((y4).1).2).1 (wi64 (((y1).2).1 + (1 : Int))) (wi64 (((y2).2).1 + (1 : Int))) at_2 ((y0).2).1 ((y3).2).1 (0 : Int)) fun y5 =>
          Sum.elim (fun y6 =>
            some y6)
            (fun y7 =>
            cond (decide (@Ne Int (((y7).2).2).1 (0 : Int)))
              (
              cond (decide (@Ne Int (((((((y7).2).2).2).2).2).2).1 (wi64 (Int.tdiv ((y7).2).1 (((y7).2).2).1))))
                (
                some ((y7).1, (false, ())))
                (
                Option.bind (F_arena_Arena_Used N ((y7).1).1 (((y7).1).2).1 ((((((y7).2).2).2).2).2).1 (3 : Int)) fun y8 =>
                cond (decide (@Ne Int ((y8).2).1 (wi64 ((((((((y7).2).2).2).2).2).2).1 * (((y7).2).2).1))))
                  (
                  some ((y8).1, (false, ())))
                  (
                  cond (decide ((((((((y7).2).2).2).2).2).2).1 = (0 : Int)))
                    (
                    some ((y8).1, ((((((y7).2).2).2).2).1, ())))
                    (
                    Option.bind (F_lodgeworld_Number N ((((y7).2).2).2).1 (((((((y7).2).2).2).2).2).2).1) fun y9 =>
                    Option.bind (F_arena_Arena_Drop N ((y8).1).1 (((y8).1).2).1 ((((((y7).2).2).2).2).2).1 (3 : Int) (wi64 (((y9).2).1 * (((y7).2).2).1))) fun y10 =>
                    Option.bind (F_arena_Arena_Take N ((y10).1).1 (((y10).1).2).1 ((((((y7).2).2).2).2).2).1 (3 : Int) (((y7).2).2).1) fun y11 =>
                    cond (((((y7).2).2).2).2).1
                      (
                      cond ((y10).2).1
                        (
                        cond (Go.Eng.Er.isNil (((y11).2).2).1)
                          (
                          some ((y11).1, ((decide (((y11).2).1 = (wi64 (((y9).2).1 * (((y7).2).2).1)))), ())))
                          (
                          some ((y11).1, (false, ()))))
                        (
                        some ((y11).1, (false, ()))))
                      (
                      some ((y11).1, (false, ())))))))
              (
              none)) y5))))

abbrev c_lodgelaw13_ArenaFits (N : Nat) : CallSpec E := ⟨3, ps_lodgelaw13_ArenaFits, rs_lodgelaw13_ArenaFits, fun x => F_lodgelaw13_ArenaFits N x.1.1 x.1.2.1 x.2.1 x.2.2.1 x.2.2.2.1⟩
abbrev l_lodgelaw13_ArenaFits_0 (N : Nat) : LoopSpec E [0, 1] := ⟨0, h_lodgelaw13_ArenaFits_0, e_lodgelaw13_ArenaFits_0, fun x => g_lodgelaw13_ArenaFits_0 N N x.1.1 x.1.2.1 x.2.1 x.2.2.1 x.2.2.2.1 x.2.2.2.2.1 x.2.2.2.2.2.1 x.2.2.2.2.2.2.1⟩

theorem cs_lodgelaw13_ArenaFits_ok (S : Ini) (N : Nat) : CallsOK Go.Proofs.Tryd.prog E S (cs_lodgelaw13_ArenaFits N) :=
  .cons (F_arena_New_ok S N) (.cons (F_arena_Arena_Add_ok S N) (.cons (F_arena_Arena_Take_ok S N) (.cons (F_arena_Arena_Drop_ok S N) (.cons (F_lodgelaw13_first_ok S N) (.cons (F_lodgeworld_Number_ok S N) (.cons (F_lodgesee_Is_ok S N) (.cons (F_arena_Arena_Used_ok S N) (.nil))))))))
noncomputable abbrev b_lodgelaw13_ArenaFits_0 : Code := (loopsOf b_lodgelaw13_ArenaFits).getD 0 .skip
theorem g_lodgelaw13_ArenaFits_0_ok (S : Ini) (N : Nat) : ∀ n x y, (fun (x : StV E [0, 1] h_lodgelaw13_ArenaFits_0) => g_lodgelaw13_ArenaFits_0 N n x.1.1 x.1.2.1 x.2.1 x.2.2.1 x.2.2.2.1 x.2.2.2.2.1 x.2.2.2.2.2.1 x.2.2.2.2.2.2.1) x = some y → LoopCon Go.Proofs.Tryd.prog E S b_lodgelaw13_ArenaFits_0 (encSlots E [0, 1] h_lodgelaw13_ArenaFits_0 x) (encEx E [0, 1] e_lodgelaw13_ArenaFits_0 y).1 (encEx E [0, 1] e_lodgelaw13_ArenaFits_0 y).2 :=
  loop_specJ E_ok mixed (E_ok.ks 3) (cs_lodgelaw13_ArenaFits_ok S N) (all := loopsOf b_lodgelaw13_ArenaFits) (ls := []) (.nil) (js := []) (i := 0) (by kernel_rfl) (inner_of (by kernel_rfl)) (head := h_lodgelaw13_ArenaFits_0) (ex := e_lodgelaw13_ArenaFits_0) (fun n (x : StV E [0, 1] h_lodgelaw13_ArenaFits_0) => g_lodgelaw13_ArenaFits_0 N n x.1.1 x.1.2.1 x.2.1 x.2.2.1 x.2.2.2.1 x.2.2.2.2.1 x.2.2.2.2.2.1 x.2.2.2.2.2.2.1) (fun _ => rfl) (fun n x => by kernel_rfl)
theorem F_lodgelaw13_ArenaFits_ok (S : Ini) (N : Nat) : ∀ x y, (c_lodgelaw13_ArenaFits N).g x = some y → FCon Go.Proofs.Tryd.prog E S 3 ps_lodgelaw13_ArenaFits rs_lodgelaw13_ArenaFits x y := by
  intro x y h
  exact fun_specJ E_ok mixed (cs_lodgelaw13_ArenaFits_ok S N) (f := 3) (fi := ⟨b_lodgelaw13_ArenaFits, 109, Go.Proofs.Tryd.f3.results.toList⟩) (by kernel_rfl) (ls := [l_lodgelaw13_ArenaFits_0 N]) (.cons (by kernel_rfl) (g_lodgelaw13_ArenaFits_0_ok S N N) (.nil)) (js := []) (by kernel_rfl) (ps := ps_lodgelaw13_ArenaFits) (rs := rs_lodgelaw13_ArenaFits) (Eq.trans (b := F_lodgelaw13_ArenaFits N x.1.1 x.1.2.1 x.2.1 x.2.2.1 x.2.2.2.1) (by kernel_rfl) h)

/-! (*lodge/arena.Arena).Parts -/

abbrev ps_arena_Arena_Parts : List Ty := [(.hd 0)]
abbrev rs_arena_Arena_Parts : List Slot := [.sl (.st (.pair (.int .i64) (.pair (.int .i64) (.int .i64))))]
abbrev cs_arena_Arena_Parts (N : Nat) : List (CallSpec E) := []
noncomputable abbrev b_arena_Arena_Parts : Code := (Go.Proofs.Tryd.f15.body).getD .skip

abbrev h_arena_Arena_Parts_0 : List Slot := [.dead, .dead, .dead, .sl (.st (.pair (.int .i64) (.pair (.int .i64) (.int .i64)))), .dead, .dead, .dead, .dead, .dead, .bor (.hd 1) 0 2, .data (.int .i64), .data (.int .i64), .dead, .dead, .dead, .dead, .dead, .dead, .dead, .dead, .dead, .dead, .dead, .dead]
abbrev e_arena_Arena_Parts_0 : List (AX × List Slot) := [(AX.exit 0, [.dead, .dead, .dead, .sl (.st (.pair (.int .i64) (.pair (.int .i64) (.int .i64)))), .dead, .dead, .dead, .dead, .dead, .dead, .dead, .dead, .dead, .dead, .dead, .dead, .dead, .dead, .dead, .dead, .dead, .dead, .dead, .dead])]
def g_arena_Arena_Parts_0 (N : Nat) : Nat → List (List Int × (List (Option Nat) × Unit)) → List (Int × (Int × (Int × (List ((Int × Int)) × Unit)))) → List ((Int × (Int × Int))) → (Nat × (Nat × Nat)) → Int → Int → Option ((List (List Int × (List (Option Nat) × Unit)) × (List (Int × (Int × (Int × (List ((Int × Int)) × Unit)))) × Unit)) × (List ((Int × (Int × Int))) × Unit))
  | 0, _, _, _, _, _, _ => none
  | n + 1, T0, T1, out_3, t_9, t_10, t_11 =>
    cond (decide (t_11 < t_10))
      (
      cond (decide ((0 : Int) ≤ t_11))
        (
        cond (decide ((Int.toNat t_11) < ((t_9).2).2))
          (
          cond (decide ((((t_9).2).1 + (Int.toNat t_11)) < (List.length (((List.getD T0 (t_9).1 (([] : List Int), (([] : List (Option Nat)), ())))).2).1)))
            (
            cond (@Option.isSome Nat (List.getD (((List.getD T0 (t_9).1 (([] : List Int), (([] : List (Option Nat)), ())))).2).1 (((t_9).2).1 + (Int.toNat t_11)) (@Option.none Nat)))
              (
              cond (decide (((0 : Nat) + (List.length out_3)) = (List.length out_3)))
                (
                cond (decide ((((List.length out_3) + 1) * (24 + (1 : Nat))) ≤ Go.Eng.most))
                  (
                  cond (decide (((List.length out_3) + 1) = (List.length ((List.take (List.length out_3) out_3) ++ ((((List.getD T1 (@Option.getD Nat (List.getD (((List.getD T0 (t_9).1 (([] : List Int), (([] : List (Option Nat)), ())))).2).1 (((t_9).2).1 + (Int.toNat t_11)) (@Option.none Nat)) (0 : Nat)) ((0 : Int), ((0 : Int), ((0 : Int), (([] : List (Int × Int)), ())))))).1, ((((List.getD T1 (@Option.getD Nat (List.getD (((List.getD T0 (t_9).1 (([] : List Int), (([] : List (Option Nat)), ())))).2).1 (((t_9).2).1 + (Int.toNat t_11)) (@Option.none Nat)) (0 : Nat)) ((0 : Int), ((0 : Int), ((0 : Int), (([] : List (Int × Int)), ())))))).2).1, ((((List.getD T1 (@Option.getD Nat (List.getD (((List.getD T0 (t_9).1 (([] : List Int), (([] : List (Option Nat)), ())))).2).1 (((t_9).2).1 + (Int.toNat t_11)) (@Option.none Nat)) (0 : Nat)) ((0 : Int), ((0 : Int), ((0 : Int), (([] : List (Int × Int)), ())))))).2).2).1)) :: ([] : List (Int × (Int × Int))))))))
                    (
                    (g_arena_Arena_Parts_0 N n T0 T1 ((List.take (List.length out_3) out_3) ++ ((((List.getD T1 (@Option.getD Nat (List.getD (((List.getD T0 (t_9).1 (([] : List Int), (([] : List (Option Nat)), ())))).2).1 (((t_9).2).1 + (Int.toNat t_11)) (@Option.none Nat)) (0 : Nat)) ((0 : Int), ((0 : Int), ((0 : Int), (([] : List (Int × Int)), ())))))).1, ((((List.getD T1 (@Option.getD Nat (List.getD (((List.getD T0 (t_9).1 (([] : List Int), (([] : List (Option Nat)), ())))).2).1 (((t_9).2).1 + (Int.toNat t_11)) (@Option.none Nat)) (0 : Nat)) ((0 : Int), ((0 : Int), ((0 : Int), (([] : List (Int × Int)), ())))))).2).1, ((((List.getD T1 (@Option.getD Nat (List.getD (((List.getD T0 (t_9).1 (([] : List Int), (([] : List (Option Nat)), ())))).2).1 (((t_9).2).1 + (Int.toNat t_11)) (@Option.none Nat)) (0 : Nat)) ((0 : Int), ((0 : Int), ((0 : Int), (([] : List (Int × Int)), ())))))).2).2).1)) :: ([] : List (Int × (Int × Int))))) t_9 t_10 (wi64 (t_11 + (1 : Int)))))
                    (
                    none))
                  (
                  none))
                (
                none))
              (
              none))
            (
            none))
          (
          none))
        (
        none))
      (
      cond (decide ((List.length out_3) = (List.length out_3)))
        (
        some ((T0, (T1, ())), (out_3, ())))
        (
        none))

def F_arena_Arena_Parts (N : Nat) (T0 : List (List Int × (List (Option Nat) × Unit))) (T1 : List (Int × (Int × (Int × (List ((Int × Int)) × Unit))))) (a_0 : Option Nat) : Option ((List (List Int × (List (Option Nat) × Unit)) × (List (Int × (Int × (Int × (List ((Int × Int)) × Unit)))) × Unit)) × (List ((Int × (Int × Int))) × Unit)) :=
  cond (@Option.isSome Nat a_0)
    (
    Option.bind (g_arena_Arena_Parts_0 N N T0 T1 ([] : List (Int × (Int × Int))) ((@Option.getD Nat a_0 (0 : Nat)), ((0 : Nat), (List.length (((List.getD T0 (@Option.getD Nat a_0 (0 : Nat)) (([] : List Int), (([] : List (Option Nat)), ())))).2).1))) (Nat.cast (List.length (((List.getD T0 (@Option.getD Nat a_0 (0 : Nat)) (([] : List Int), (([] : List (Option Nat)), ())))).2).1) : Int) (0 : Int)) fun y0 =>
    cond (decide ((List.length ((y0).2).1) = (List.length ((y0).2).1)))
      (
      some y0)
      (
      none))
    (
    none)

abbrev c_arena_Arena_Parts (N : Nat) : CallSpec E := ⟨15, ps_arena_Arena_Parts, rs_arena_Arena_Parts, fun x => F_arena_Arena_Parts N x.1.1 x.1.2.1 x.2.1⟩
abbrev l_arena_Arena_Parts_0 (N : Nat) : LoopSpec E [0, 1] := ⟨0, h_arena_Arena_Parts_0, e_arena_Arena_Parts_0, fun x => g_arena_Arena_Parts_0 N N x.1.1 x.1.2.1 x.2.1 x.2.2.1 x.2.2.2.1 x.2.2.2.2.1⟩

theorem cs_arena_Arena_Parts_ok (S : Ini) (N : Nat) : CallsOK Go.Proofs.Tryd.prog E S (cs_arena_Arena_Parts N) :=
  .nil
noncomputable abbrev b_arena_Arena_Parts_0 : Code := (loopsOf b_arena_Arena_Parts).getD 0 .skip
theorem g_arena_Arena_Parts_0_ok (S : Ini) (N : Nat) : ∀ n x y, (fun (x : StV E [0, 1] h_arena_Arena_Parts_0) => g_arena_Arena_Parts_0 N n x.1.1 x.1.2.1 x.2.1 x.2.2.1 x.2.2.2.1 x.2.2.2.2.1) x = some y → LoopCon Go.Proofs.Tryd.prog E S b_arena_Arena_Parts_0 (encSlots E [0, 1] h_arena_Arena_Parts_0 x) (encEx E [0, 1] e_arena_Arena_Parts_0 y).1 (encEx E [0, 1] e_arena_Arena_Parts_0 y).2 :=
  loop_specJ E_ok mixed (E_ok.ks 15) (cs_arena_Arena_Parts_ok S N) (all := loopsOf b_arena_Arena_Parts) (ls := []) (.nil) (js := []) (i := 0) (by kernel_rfl) (inner_of (by kernel_rfl)) (head := h_arena_Arena_Parts_0) (ex := e_arena_Arena_Parts_0) (fun n (x : StV E [0, 1] h_arena_Arena_Parts_0) => g_arena_Arena_Parts_0 N n x.1.1 x.1.2.1 x.2.1 x.2.2.1 x.2.2.2.1 x.2.2.2.2.1) (fun _ => rfl) (fun n x => by kernel_rfl)
theorem F_arena_Arena_Parts_ok (S : Ini) (N : Nat) : ∀ x y, (c_arena_Arena_Parts N).g x = some y → FCon Go.Proofs.Tryd.prog E S 15 ps_arena_Arena_Parts rs_arena_Arena_Parts x y := by
  intro x y h
  exact fun_specJ E_ok mixed (cs_arena_Arena_Parts_ok S N) (f := 15) (fi := ⟨b_arena_Arena_Parts, 24, Go.Proofs.Tryd.f15.results.toList⟩) (by kernel_rfl) (ls := [l_arena_Arena_Parts_0 N]) (.cons (by kernel_rfl) (g_arena_Arena_Parts_0_ok S N N) (.nil)) (js := []) (by kernel_rfl) (ps := ps_arena_Arena_Parts) (rs := rs_arena_Arena_Parts) (Eq.trans (b := F_arena_Arena_Parts N x.1.1 x.1.2.1 x.2.1) (by kernel_rfl) h)

/-! (*lodge/arena.Arena).Remove$1 -/

abbrev ps_arena_Arena_Remove_1 : List Ty := [(.hd 1), (.ref (.hd 1))]
abbrev rs_arena_Arena_Remove_1 : List Slot := [.data .bool]
abbrev cs_arena_Arena_Remove_1 (N : Nat) : List (CallSpec E) := []
noncomputable abbrev b_arena_Arena_Remove_1 : Code := (Go.Proofs.Tryd.f32.body).getD .skip

def F_arena_Arena_Remove_1 (N : Nat) (T1 : List (Int × (Int × (Int × (List ((Int × Int)) × Unit))))) (q_0 : Option Nat) (t_1 : Option Nat) : Option ((List (Int × (Int × (Int × (List ((Int × Int)) × Unit)))) × Unit) × (Bool × Unit)) :=
  some ((T1, ()), ((decide (q_0 = t_1)), ()))

abbrev c_arena_Arena_Remove_1 (N : Nat) : CallSpec E := ⟨32, ps_arena_Arena_Remove_1, rs_arena_Arena_Remove_1, fun x => F_arena_Arena_Remove_1 N x.1.1 x.2.1 x.2.2.1⟩

theorem cs_arena_Arena_Remove_1_ok (S : Ini) (N : Nat) : CallsOK Go.Proofs.Tryd.prog E S (cs_arena_Arena_Remove_1 N) :=
  .nil
theorem F_arena_Arena_Remove_1_ok (S : Ini) (N : Nat) : ∀ x y, (c_arena_Arena_Remove_1 N).g x = some y → FCon Go.Proofs.Tryd.prog E S 32 ps_arena_Arena_Remove_1 rs_arena_Arena_Remove_1 x y := by
  intro x y h
  exact fun_specJ E_ok mixed (cs_arena_Arena_Remove_1_ok S N) (f := 32) (fi := ⟨b_arena_Arena_Remove_1, 7, Go.Proofs.Tryd.f32.results.toList⟩) (by kernel_rfl) (ls := []) (.nil) (js := []) (by kernel_rfl) (ps := ps_arena_Arena_Remove_1) (rs := rs_arena_Arena_Remove_1) (Eq.trans (b := F_arena_Arena_Remove_1 N x.1.1 x.2.1 x.2.2.1) (by kernel_rfl) h)

/-! (*lodge/arena.Arena).Remove -/

abbrev ps_arena_Arena_Remove : List Ty := [(.hd 0), (.int .i64)]
abbrev rs_arena_Arena_Remove : List Slot := [.data .bool]
abbrev cs_arena_Arena_Remove (N : Nat) : List (CallSpec E) := [c_arena_Arena_find N, c_arena_Arena_Remove_1 N]
noncomputable abbrev b_arena_Arena_Remove : Code := (Go.Proofs.Tryd.f16.body).getD .skip

def F_arena_Arena_Remove (N : Nat) (T0 : List (List Int × (List (Option Nat) × Unit))) (T1 : List (Int × (Int × (Int × (List ((Int × Int)) × Unit))))) (a_0 : Option Nat) (id_1 : Int) : Option ((List (List Int × (List (Option Nat) × Unit)) × (List (Int × (Int × (Int × (List ((Int × Int)) × Unit)))) × Unit)) × (Bool × Unit)) :=
  Option.bind (F_arena_Arena_find N T0 T1 a_0 id_1) fun y0 =>
  cond (@Option.isNone Nat ((y0).2).1)
    (
    some ((y0).1, (false, ())))
    (
    cond (@Option.isSome Nat a_0)
      (
      cond (@Option.isSome Nat ((y0).2).1)
        (
        cond (@Option.isSome Nat ((y0).2).1)
          (
          cond (@Option.isSome Nat ((y0).2).1)
            (
            cond (decide ((0 : Int) ≤ (((List.getD (((y0).1).2).1 (@Option.getD Nat ((y0).2).1 (0 : Nat)) ((0 : Int), ((0 : Int), ((0 : Int), (([] : List (Int × Int)), ())))))).2).1))
              (
              cond (decide ((0 : Int) ≤ (wi64 ((((List.getD (((y0).1).2).1 (@Option.getD Nat ((y0).2).1 (0 : Nat)) ((0 : Int), ((0 : Int), ((0 : Int), (([] : List (Int × Int)), ())))))).2).1 + ((((List.getD (((y0).1).2).1 (@Option.getD Nat ((y0).2).1 (0 : Nat)) ((0 : Int), ((0 : Int), ((0 : Int), (([] : List (Int × Int)), ())))))).2).2).1))))
                (
                cond (decide ((Int.toNat (((List.getD (((y0).1).2).1 (@Option.getD Nat ((y0).2).1 (0 : Nat)) ((0 : Int), ((0 : Int), ((0 : Int), (([] : List (Int × Int)), ())))))).2).1) ≤ (Int.toNat (wi64 ((((List.getD (((y0).1).2).1 (@Option.getD Nat ((y0).2).1 (0 : Nat)) ((0 : Int), ((0 : Int), ((0 : Int), (([] : List (Int × Int)), ())))))).2).1 + ((((List.getD (((y0).1).2).1 (@Option.getD Nat ((y0).2).1 (0 : Nat)) ((0 : Int), ((0 : Int), ((0 : Int), (([] : List (Int × Int)), ())))))).2).2).1)))))
                  (
                  cond (decide ((Int.toNat (wi64 ((((List.getD (((y0).1).2).1 (@Option.getD Nat ((y0).2).1 (0 : Nat)) ((0 : Int), ((0 : Int), ((0 : Int), (([] : List (Int × Int)), ())))))).2).1 + ((((List.getD (((y0).1).2).1 (@Option.getD Nat ((y0).2).1 (0 : Nat)) ((0 : Int), ((0 : Int), ((0 : Int), (([] : List (Int × Int)), ())))))).2).2).1))) ≤ (List.length ((List.getD ((y0).1).1 (@Option.getD Nat a_0 (0 : Nat)) (([] : List Int), (([] : List (Option Nat)), ())))).1)))
                    (
                    cond (decide ((((0 : Nat) + (Int.toNat (((List.getD (((y0).1).2).1 (@Option.getD Nat ((y0).2).1 (0 : Nat)) ((0 : Int), ((0 : Int), ((0 : Int), (([] : List (Int × Int)), ())))))).2).1)) + ((Int.toNat (wi64 ((((List.getD (((y0).1).2).1 (@Option.getD Nat ((y0).2).1 (0 : Nat)) ((0 : Int), ((0 : Int), ((0 : Int), (([] : List (Int × Int)), ())))))).2).1 + ((((List.getD (((y0).1).2).1 (@Option.getD Nat ((y0).2).1 (0 : Nat)) ((0 : Int), ((0 : Int), ((0 : Int), (([] : List (Int × Int)), ())))))).2).2).1))) - (Int.toNat (((List.getD (((y0).1).2).1 (@Option.getD Nat ((y0).2).1 (0 : Nat)) ((0 : Int), ((0 : Int), ((0 : Int), (([] : List (Int × Int)), ())))))).2).1))) ≤ (List.length ((List.getD ((y0).1).1 (@Option.getD Nat a_0 (0 : Nat)) (([] : List Int), (([] : List (Option Nat)), ())))).1)))
                      (
                      cond (@Option.isSome Nat a_0)
                        (
                        cond (decide (((0 : Nat) + (List.length (((List.getD (List.set ((y0).1).1 (@Option.getD Nat a_0 (0 : Nat)) ((((List.take ((0 : Nat) + (Int.toNat (((List.getD (((y0).1).2).1 (@Option.getD Nat ((y0).2).1 (0 : Nat)) ((0 : Int), ((0 : Int), ((0 : Int), (([] : List (Int × Int)), ())))))).2).1)) ((List.getD ((y0).1).1 (@Option.getD Nat a_0 (0 : Nat)) (([] : List Int), (([] : List (Option Nat)), ())))).1) ++ (List.replicate ((Int.toNat (wi64 ((((List.getD (((y0).1).2).1 (@Option.getD Nat ((y0).2).1 (0 : Nat)) ((0 : Int), ((0 : Int), ((0 : Int), (([] : List (Int × Int)), ())))))).2).1 + ((((List.getD (((y0).1).2).1 (@Option.getD Nat ((y0).2).1 (0 : Nat)) ((0 : Int), ((0 : Int), ((0 : Int), (([] : List (Int × Int)), ())))))).2).2).1))) - (Int.toNat (((List.getD (((y0).1).2).1 (@Option.getD Nat ((y0).2).1 (0 : Nat)) ((0 : Int), ((0 : Int), ((0 : Int), (([] : List (Int × Int)), ())))))).2).1)) (0 : Int))) ++ (List.drop (((0 : Nat) + (Int.toNat (((List.getD (((y0).1).2).1 (@Option.getD Nat ((y0).2).1 (0 : Nat)) ((0 : Int), ((0 : Int), ((0 : Int), (([] : List (Int × Int)), ())))))).2).1)) + ((Int.toNat (wi64 ((((List.getD (((y0).1).2).1 (@Option.getD Nat ((y0).2).1 (0 : Nat)) ((0 : Int), ((0 : Int), ((0 : Int), (([] : List (Int × Int)), ())))))).2).1 + ((((List.getD (((y0).1).2).1 (@Option.getD Nat ((y0).2).1 (0 : Nat)) ((0 : Int), ((0 : Int), ((0 : Int), (([] : List (Int × Int)), ())))))).2).2).1))) - (Int.toNat (((List.getD (((y0).1).2).1 (@Option.getD Nat ((y0).2).1 (0 : Nat)) ((0 : Int), ((0 : Int), ((0 : Int), (([] : List (Int × Int)), ())))))).2).1))) ((List.getD ((y0).1).1 (@Option.getD Nat a_0 (0 : Nat)) (([] : List Int), (([] : List (Option Nat)), ())))).1)), ((List.getD ((y0).1).1 (@Option.getD Nat a_0 (0 : Nat)) (([] : List Int), (([] : List (Option Nat)), ())))).2)) (@Option.getD Nat a_0 (0 : Nat)) (([] : List Int), (([] : List (Option Nat)), ())))).2).1)) = (List.length (((List.getD (List.set ((y0).1).1 (@Option.getD Nat a_0 (0 : Nat)) ((((List.take ((0 : Nat) + (Int.toNat (((List.getD (((y0).1).2).1 (@Option.getD Nat ((y0).2).1 (0 : Nat)) ((0 : Int), ((0 : Int), ((0 : Int), (([] : List (Int × Int)), ())))))).2).1)) ((List.getD ((y0).1).1 (@Option.getD Nat a_0 (0 : Nat)) (([] : List Int), (([] : List (Option Nat)), ())))).1) ++ (List.replicate ((Int.toNat (wi64 ((((List.getD (((y0).1).2).1 (@Option.getD Nat ((y0).2).1 (0 : Nat)) ((0 : Int), ((0 : Int), ((0 : Int), (([] : List (Int × Int)), ())))))).2).1 + ((((List.getD (((y0).1).2).1 (@Option.getD Nat ((y0).2).1 (0 : Nat)) ((0 : Int), ((0 : Int), ((0 : Int), (([] : List (Int × Int)), ())))))).2).2).1))) - (Int.toNat (((List.getD (((y0).1).2).1 (@Option.getD Nat ((y0).2).1 (0 : Nat)) ((0 : Int), ((0 : Int), ((0 : Int), (([] : List (Int × Int)), ())))))).2).1)) (0 : Int))) ++ (List.drop (((0 : Nat) + (Int.toNat (((List.getD (((y0).1).2).1 (@Option.getD Nat ((y0).2).1 (0 : Nat)) ((0 : Int), ((0 : Int), ((0 : Int), (([] : List (Int × Int)), ())))))).2).1)) + ((Int.toNat (wi64 ((((List.getD (((y0).1).2).1 (@Option.getD Nat ((y0).2).1 (0 : Nat)) ((0 : Int), ((0 : Int), ((0 : Int), (([] : List (Int × Int)), ())))))).2).1 + ((((List.getD (((y0).1).2).1 (@Option.getD Nat ((y0).2).1 (0 : Nat)) ((0 : Int), ((0 : Int), ((0 : Int), (([] : List (Int × Int)), ())))))).2).2).1))) - (Int.toNat (((List.getD (((y0).1).2).1 (@Option.getD Nat ((y0).2).1 (0 : Nat)) ((0 : Int), ((0 : Int), ((0 : Int), (([] : List (Int × Int)), ())))))).2).1))) ((List.getD ((y0).1).1 (@Option.getD Nat a_0 (0 : Nat)) (([] : List Int), (([] : List (Option Nat)), ())))).1)), ((List.getD ((y0).1).1 (@Option.getD Nat a_0 (0 : Nat)) (([] : List Int), (([] : List (Option Nat)), ())))).2)) (@Option.getD Nat a_0 (0 : Nat)) (([] : List Int), (([] : List (Option Nat)), ())))).2).1)))
                          (
                          cond (decide ((0 : Nat) < (List.length (List.take (List.length (((List.getD (List.set ((y0).1).1 (@Option.getD Nat a_0 (0 : Nat)) ((((List.take ((0 : Nat) + (Int.toNat (((List.getD (((y0).1).2).1 (@Option.getD Nat ((y0).2).1 (0 : Nat)) ((0 : Int), ((0 : Int), ((0 : Int), (([] : List (Int × Int)), ())))))).2).1)) ((List.getD ((y0).1).1 (@Option.getD Nat a_0 (0 : Nat)) (([] : List Int), (([] : List (Option Nat)), ())))).1) ++ (List.replicate ((Int.toNat (wi64 ((((List.getD (((y0).1).2).1 (@Option.getD Nat ((y0).2).1 (0 : Nat)) ((0 : Int), ((0 : Int), ((0 : Int), (([] : List (Int × Int)), ())))))).2).1 + ((((List.getD (((y0).1).2).1 (@Option.getD Nat ((y0).2).1 (0 : Nat)) ((0 : Int), ((0 : Int), ((0 : Int), (([] : List (Int × Int)), ())))))).2).2).1))) - (Int.toNat (((List.getD (((y0).1).2).1 (@Option.getD Nat ((y0).2).1 (0 : Nat)) ((0 : Int), ((0 : Int), ((0 : Int), (([] : List (Int × Int)), ())))))).2).1)) (0 : Int))) ++ (List.drop (((0 : Nat) + (Int.toNat (((List.getD (((y0).1).2).1 (@Option.getD Nat ((y0).2).1 (0 : Nat)) ((0 : Int), ((0 : Int), ((0 : Int), (([] : List (Int × Int)), ())))))).2).1)) + ((Int.toNat (wi64 ((((List.getD (((y0).1).2).1 (@Option.getD Nat ((y0).2).1 (0 : Nat)) ((0 : Int), ((0 : Int), ((0 : Int), (([] : List (Int × Int)), ())))))).2).1 + ((((List.getD (((y0).1).2).1 (@Option.getD Nat ((y0).2).1 (0 : Nat)) ((0 : Int), ((0 : Int), ((0 : Int), (([] : List (Int × Int)), ())))))).2).2).1))) - (Int.toNat (((List.getD (((y0).1).2).1 (@Option.getD Nat ((y0).2).1 (0 : Nat)) ((0 : Int), ((0 : Int), ((0 : Int), (([] : List (Int × Int)), ())))))).2).1))) ((List.getD ((y0).1).1 (@Option.getD Nat a_0 (0 : Nat)) (([] : List Int), (([] : List (Option Nat)), ())))).1)), ((List.getD ((y0).1).1 (@Option.getD Nat a_0 (0 : Nat)) (([] : List Int), (([] : List (Option Nat)), ())))).2)) (@Option.getD Nat a_0 (0 : Nat)) (([] : List Int), (([] : List (Option Nat)), ())))).2).1) (((List.getD (List.set ((y0).1).1 (@Option.getD Nat a_0 (0 : Nat)) ((((List.take ((0 : Nat) + (Int.toNat (((List.getD (((y0).1).2).1 (@Option.getD Nat ((y0).2).1 (0 : Nat)) ((0 : Int), ((0 : Int), ((0 : Int), (([] : List (Int × Int)), ())))))).2).1)) ((List.getD ((y0).1).1 (@Option.getD Nat a_0 (0 : Nat)) (([] : List Int), (([] : List (Option Nat)), ())))).1) ++ (List.replicate ((Int.toNat (wi64 ((((List.getD (((y0).1).2).1 (@Option.getD Nat ((y0).2).1 (0 : Nat)) ((0 : Int), ((0 : Int), ((0 : Int), (([] : List (Int × Int)), ())))))).2).1 + ((((List.getD (((y0).1).2).1 (@Option.getD Nat ((y0).2).1 (0 : Nat)) ((0 : Int), ((0 : Int), ((0 : Int), (([] : List (Int × Int)), ())))))).2).2).1))) - (Int.toNat (((List.getD (((y0).1).2).1 (@Option.getD Nat ((y0).2).1 (0 : Nat)) ((0 : Int), ((0 : Int), ((0 : Int), (([] : List (Int × Int)), ())))))).2).1)) (0 : Int))) ++ (List.drop (((0 : Nat) + (Int.toNat (((List.getD (((y0).1).2).1 (@Option.getD Nat ((y0).2).1 (0 : Nat)) ((0 : Int), ((0 : Int), ((0 : Int), (([] : List (Int × Int)), ())))))).2).1)) + ((Int.toNat (wi64 ((((List.getD (((y0).1).2).1 (@Option.getD Nat ((y0).2).1 (0 : Nat)) ((0 : Int), ((0 : Int), ((0 : Int), (([] : List (Int × Int)), ())))))).2).1 + ((((List.getD (((y0).1).2).1 (@Option.getD Nat ((y0).2).1 (0 : Nat)) ((0 : Int), ((0 : Int), ((0 : Int), (([] : List (Int × Int)), ())))))).2).2).1))) - (Int.toNat (((List.getD (((y0).1).2).1 (@Option.getD Nat ((y0).2).1 (0 : Nat)) ((0 : Int), ((0 : Int), ((0 : Int), (([] : List (Int × Int)), ())))))).2).1))) ((List.getD ((y0).1).1 (@Option.getD Nat a_0 (0 : Nat)) (([] : List Int), (([] : List (Option Nat)), ())))).1)), ((List.getD ((y0).1).1 (@Option.getD Nat a_0 (0 : Nat)) (([] : List Int), (([] : List (Option Nat)), ())))).2)) (@Option.getD Nat a_0 (0 : Nat)) (([] : List Int), (([] : List (Option Nat)), ())))).2).1))))
                            (
                            cond (decide ((List.length (List.take (List.length (((List.getD (List.set ((y0).1).1 (@Option.getD Nat a_0 (0 : Nat)) ((((List.take ((0 : Nat) + (Int.toNat (((List.getD (((y0).1).2).1 (@Option.getD Nat ((y0).2).1 (0 : Nat)) ((0 : Int), ((0 : Int), ((0 : Int), (([] : List (Int × Int)), ())))))).2).1)) ((List.getD ((y0).1).1 (@Option.getD Nat a_0 (0 : Nat)) (([] : List Int), (([] : List (Option Nat)), ())))).1) ++ (List.replicate ((Int.toNat (wi64 ((((List.getD (((y0).1).2).1 (@Option.getD Nat ((y0).2).1 (0 : Nat)) ((0 : Int), ((0 : Int), ((0 : Int), (([] : List (Int × Int)), ())))))).2).1 + ((((List.getD (((y0).1).2).1 (@Option.getD Nat ((y0).2).1 (0 : Nat)) ((0 : Int), ((0 : Int), ((0 : Int), (([] : List (Int × Int)), ())))))).2).2).1))) - (Int.toNat (((List.getD (((y0).1).2).1 (@Option.getD Nat ((y0).2).1 (0 : Nat)) ((0 : Int), ((0 : Int), ((0 : Int), (([] : List (Int × Int)), ())))))).2).1)) (0 : Int))) ++ (List.drop (((0 : Nat) + (Int.toNat (((List.getD (((y0).1).2).1 (@Option.getD Nat ((y0).2).1 (0 : Nat)) ((0 : Int), ((0 : Int), ((0 : Int), (([] : List (Int × Int)), ())))))).2).1)) + ((Int.toNat (wi64 ((((List.getD (((y0).1).2).1 (@Option.getD Nat ((y0).2).1 (0 : Nat)) ((0 : Int), ((0 : Int), ((0 : Int), (([] : List (Int × Int)), ())))))).2).1 + ((((List.getD (((y0).1).2).1 (@Option.getD Nat ((y0).2).1 (0 : Nat)) ((0 : Int), ((0 : Int), ((0 : Int), (([] : List (Int × Int)), ())))))).2).2).1))) - (Int.toNat (((List.getD (((y0).1).2).1 (@Option.getD Nat ((y0).2).1 (0 : Nat)) ((0 : Int), ((0 : Int), ((0 : Int), (([] : List (Int × Int)), ())))))).2).1))) ((List.getD ((y0).1).1 (@Option.getD Nat a_0 (0 : Nat)) (([] : List Int), (([] : List (Option Nat)), ())))).1)), ((List.getD ((y0).1).1 (@Option.getD Nat a_0 (0 : Nat)) (([] : List Int), (([] : List (Option Nat)), ())))).2)) (@Option.getD Nat a_0 (0 : Nat)) (([] : List Int), (([] : List (Option Nat)), ())))).2).1) (((List.getD (List.set ((y0).1).1 (@Option.getD Nat a_0 (0 : Nat)) ((((List.take ((0 : Nat) + (Int.toNat (((List.getD (((y0).1).2).1 (@Option.getD Nat ((y0).2).1 (0 : Nat)) ((0 : Int), ((0 : Int), ((0 : Int), (([] : List (Int × Int)), ())))))).2).1)) ((List.getD ((y0).1).1 (@Option.getD Nat a_0 (0 : Nat)) (([] : List Int), (([] : List (Option Nat)), ())))).1) ++ (List.replicate ((Int.toNat (wi64 ((((List.getD (((y0).1).2).1 (@Option.getD Nat ((y0).2).1 (0 : Nat)) ((0 : Int), ((0 : Int), ((0 : Int), (([] : List (Int × Int)), ())))))).2).1 + ((((List.getD (((y0).1).2).1 (@Option.getD Nat ((y0).2).1 (0 : Nat)) ((0 : Int), ((0 : Int), ((0 : Int), (([] : List (Int × Int)), ())))))).2).2).1))) - (Int.toNat (((List.getD (((y0).1).2).1 (@Option.getD Nat ((y0).2).1 (0 : Nat)) ((0 : Int), ((0 : Int), ((0 : Int), (([] : List (Int × Int)), ())))))).2).1)) (0 : Int))) ++ (List.drop (((0 : Nat) + (Int.toNat (((List.getD (((y0).1).2).1 (@Option.getD Nat ((y0).2).1 (0 : Nat)) ((0 : Int), ((0 : Int), ((0 : Int), (([] : List (Int × Int)), ())))))).2).1)) + ((Int.toNat (wi64 ((((List.getD (((y0).1).2).1 (@Option.getD Nat ((y0).2).1 (0 : Nat)) ((0 : Int), ((0 : Int), ((0 : Int), (([] : List (Int × Int)), ())))))).2).1 + ((((List.getD (((y0).1).2).1 (@Option.getD Nat ((y0).2).1 (0 : Nat)) ((0 : Int), ((0 : Int), ((0 : Int), (([] : List (Int × Int)), ())))))).2).2).1))) - (Int.toNat (((List.getD (((y0).1).2).1 (@Option.getD Nat ((y0).2).1 (0 : Nat)) ((0 : Int), ((0 : Int), ((0 : Int), (([] : List (Int × Int)), ())))))).2).1))) ((List.getD ((y0).1).1 (@Option.getD Nat a_0 (0 : Nat)) (([] : List Int), (([] : List (Option Nat)), ())))).1)), ((List.getD ((y0).1).1 (@Option.getD Nat a_0 (0 : Nat)) (([] : List Int), (([] : List (Option Nat)), ())))).2)) (@Option.getD Nat a_0 (0 : Nat)) (([] : List Int), (([] : List (Option Nat)), ())))).2).1)) ≤ Go.Eng.most))
                              (
                              cond (@Option.isSome Nat a_0)
                                (
                                cond (decide (((0 : Nat) + (List.length (@List.filter (Option Nat) (fun (y : (Option Nat)) => (Bool.not (decide (y = ((y0).2).1)))) (List.take (List.length (((List.getD (List.set ((y0).1).1 (@Option.getD Nat a_0 (0 : Nat)) ((((List.take ((0 : Nat) + (Int.toNat (((List.getD (((y0).1).2).1 (@Option.getD Nat ((y0).2).1 (0 : Nat)) ((0 : Int), ((0 : Int), ((0 : Int), (([] : List (Int × Int)), ())))))).2).1)) ((List.getD ((y0).1).1 (@Option.getD Nat a_0 (0 : Nat)) (([] : List Int), (([] : List (Option Nat)), ())))).1) ++ (List.replicate ((Int.toNat (wi64 ((((List.getD (((y0).1).2).1 (@Option.getD Nat ((y0).2).1 (0 : Nat)) ((0 : Int), ((0 : Int), ((0 : Int), (([] : List (Int × Int)), ())))))).2).1 + ((((List.getD (((y0).1).2).1 (@Option.getD Nat ((y0).2).1 (0 : Nat)) ((0 : Int), ((0 : Int), ((0 : Int), (([] : List (Int × Int)), ())))))).2).2).1))) - (Int.toNat (((List.getD (((y0).1).2).1 (@Option.getD Nat ((y0).2).1 (0 : Nat)) ((0 : Int), ((0 : Int), ((0 : Int), (([] : List (Int × Int)), ())))))).2).1)) (0 : Int))) ++ (List.drop (((0 : Nat) + (Int.toNat (((List.getD (((y0).1).2).1 (@Option.getD Nat ((y0).2).1 (0 : Nat)) ((0 : Int), ((0 : Int), ((0 : Int), (([] : List (Int × Int)), ())))))).2).1)) + ((Int.toNat (wi64 ((((List.getD (((y0).1).2).1 (@Option.getD Nat ((y0).2).1 (0 : Nat)) ((0 : Int), ((0 : Int), ((0 : Int), (([] : List (Int × Int)), ())))))).2).1 + ((((List.getD (((y0).1).2).1 (@Option.getD Nat ((y0).2).1 (0 : Nat)) ((0 : Int), ((0 : Int), ((0 : Int), (([] : List (Int × Int)), ())))))).2).2).1))) - (Int.toNat (((List.getD (((y0).1).2).1 (@Option.getD Nat ((y0).2).1 (0 : Nat)) ((0 : Int), ((0 : Int), ((0 : Int), (([] : List (Int × Int)), ())))))).2).1))) ((List.getD ((y0).1).1 (@Option.getD Nat a_0 (0 : Nat)) (([] : List Int), (([] : List (Option Nat)), ())))).1)), ((List.getD ((y0).1).1 (@Option.getD Nat a_0 (0 : Nat)) (([] : List Int), (([] : List (Option Nat)), ())))).2)) (@Option.getD Nat a_0 (0 : Nat)) (([] : List Int), (([] : List (Option Nat)), ())))).2).1) (((List.getD (List.set ((y0).1).1 (@Option.getD Nat a_0 (0 : Nat)) ((((List.take ((0 : Nat) + (Int.toNat (((List.getD (((y0).1).2).1 (@Option.getD Nat ((y0).2).1 (0 : Nat)) ((0 : Int), ((0 : Int), ((0 : Int), (([] : List (Int × Int)), ())))))).2).1)) ((List.getD ((y0).1).1 (@Option.getD Nat a_0 (0 : Nat)) (([] : List Int), (([] : List (Option Nat)), ())))).1) ++ (List.replicate ((Int.toNat (wi64 ((((List.getD (((y0).1).2).1 (@Option.getD Nat ((y0).2).1 (0 : Nat)) ((0 : Int), ((0 : Int), ((0 : Int), (([] : List (Int × Int)), ())))))).2).1 + ((((List.getD (((y0).1).2).1 (@Option.getD Nat ((y0).2).1 (0 : Nat)) ((0 : Int), ((0 : Int), ((0 : Int), (([] : List (Int × Int)), ())))))).2).2).1))) - (Int.toNat (((List.getD (((y0).1).2).1 (@Option.getD Nat ((y0).2).1 (0 : Nat)) ((0 : Int), ((0 : Int), ((0 : Int), (([] : List (Int × Int)), ())))))).2).1)) (0 : Int))) ++ (List.drop (((0 : Nat) + (Int.toNat (((List.getD (((y0).1).2).1 (@Option.getD Nat ((y0).2).1 (0 : Nat)) ((0 : Int), ((0 : Int), ((0 : Int), (([] : List (Int × Int)), ())))))).2).1)) + ((Int.toNat (wi64 ((((List.getD (((y0).1).2).1 (@Option.getD Nat ((y0).2).1 (0 : Nat)) ((0 : Int), ((0 : Int), ((0 : Int), (([] : List (Int × Int)), ())))))).2).1 + ((((List.getD (((y0).1).2).1 (@Option.getD Nat ((y0).2).1 (0 : Nat)) ((0 : Int), ((0 : Int), ((0 : Int), (([] : List (Int × Int)), ())))))).2).2).1))) - (Int.toNat (((List.getD (((y0).1).2).1 (@Option.getD Nat ((y0).2).1 (0 : Nat)) ((0 : Int), ((0 : Int), ((0 : Int), (([] : List (Int × Int)), ())))))).2).1))) ((List.getD ((y0).1).1 (@Option.getD Nat a_0 (0 : Nat)) (([] : List Int), (([] : List (Option Nat)), ())))).1)), ((List.getD ((y0).1).1 (@Option.getD Nat a_0 (0 : Nat)) (([] : List Int), (([] : List (Option Nat)), ())))).2)) (@Option.getD Nat a_0 (0 : Nat)) (([] : List Int), (([] : List (Option Nat)), ())))).2).1)))) ≤ (List.length (@List.filter (Option Nat) (fun (y : (Option Nat)) => (Bool.not (decide (y = ((y0).2).1)))) (List.take (List.length (((List.getD (List.set ((y0).1).1 (@Option.getD Nat a_0 (0 : Nat)) ((((List.take ((0 : Nat) + (Int.toNat (((List.getD (((y0).1).2).1 (@Option.getD Nat ((y0).2).1 (0 : Nat)) ((0 : Int), ((0 : Int), ((0 : Int), (([] : List (Int × Int)), ())))))).2).1)) ((List.getD ((y0).1).1 (@Option.getD Nat a_0 (0 : Nat)) (([] : List Int), (([] : List (Option Nat)), ())))).1) ++ (List.replicate ((Int.toNat (wi64 ((((List.getD (((y0).1).2).1 (@Option.getD Nat ((y0).2).1 (0 : Nat)) ((0 : Int), ((0 : Int), ((0 : Int), (([] : List (Int × Int)), ())))))).2).1 + ((((List.getD (((y0).1).2).1 (@Option.getD Nat ((y0).2).1 (0 : Nat)) ((0 : Int), ((0 : Int), ((0 : Int), (([] : List (Int × Int)), ())))))).2).2).1))) - (Int.toNat (((List.getD (((y0).1).2).1 (@Option.getD Nat ((y0).2).1 (0 : Nat)) ((0 : Int), ((0 : Int), ((0 : Int), (([] : List (Int × Int)), ())))))).2).1)) (0 : Int))) ++ (List.drop (((0 : Nat) + (Int.toNat (((List.getD (((y0).1).2).1 (@Option.getD Nat ((y0).2).1 (0 : Nat)) ((0 : Int), ((0 : Int), ((0 : Int), (([] : List (Int × Int)), ())))))).2).1)) + ((Int.toNat (wi64 ((((List.getD (((y0).1).2).1 (@Option.getD Nat ((y0).2).1 (0 : Nat)) ((0 : Int), ((0 : Int), ((0 : Int), (([] : List (Int × Int)), ())))))).2).1 + ((((List.getD (((y0).1).2).1 (@Option.getD Nat ((y0).2).1 (0 : Nat)) ((0 : Int), ((0 : Int), ((0 : Int), (([] : List (Int × Int)), ())))))).2).2).1))) - (Int.toNat (((List.getD (((y0).1).2).1 (@Option.getD Nat ((y0).2).1 (0 : Nat)) ((0 : Int), ((0 : Int), ((0 : Int), (([] : List (Int × Int)), ())))))).2).1))) ((List.getD ((y0).1).1 (@Option.getD Nat a_0 (0 : Nat)) (([] : List Int), (([] : List (Option Nat)), ())))).1)), ((List.getD ((y0).1).1 (@Option.getD Nat a_0 (0 : Nat)) (([] : List Int), (([] : List (Option Nat)), ())))).2)) (@Option.getD Nat a_0 (0 : Nat)) (([] : List Int), (([] : List (Option Nat)), ())))).2).1) (((List.getD (List.set ((y0).1).1 (@Option.getD Nat a_0 (0 : Nat)) ((((List.take ((0 : Nat) + (Int.toNat (((List.getD (((y0).1).2).1 (@Option.getD Nat ((y0).2).1 (0 : Nat)) ((0 : Int), ((0 : Int), ((0 : Int), (([] : List (Int × Int)), ())))))).2).1)) ((List.getD ((y0).1).1 (@Option.getD Nat a_0 (0 : Nat)) (([] : List Int), (([] : List (Option Nat)), ())))).1) ++ (List.replicate ((Int.toNat (wi64 ((((List.getD (((y0).1).2).1 (@Option.getD Nat ((y0).2).1 (0 : Nat)) ((0 : Int), ((0 : Int), ((0 : Int), (([] : List (Int × Int)), ())))))).2).1 + ((((List.getD (((y0).1).2).1 (@Option.getD Nat ((y0).2).1 (0 : Nat)) ((0 : Int), ((0 : Int), ((0 : Int), (([] : List (Int × Int)), ())))))).2).2).1))) - (Int.toNat (((List.getD (((y0).1).2).1 (@Option.getD Nat ((y0).2).1 (0 : Nat)) ((0 : Int), ((0 : Int), ((0 : Int), (([] : List (Int × Int)), ())))))).2).1)) (0 : Int))) ++ (List.drop (((0 : Nat) + (Int.toNat (((List.getD (((y0).1).2).1 (@Option.getD Nat ((y0).2).1 (0 : Nat)) ((0 : Int), ((0 : Int), ((0 : Int), (([] : List (Int × Int)), ())))))).2).1)) + ((Int.toNat (wi64 ((((List.getD (((y0).1).2).1 (@Option.getD Nat ((y0).2).1 (0 : Nat)) ((0 : Int), ((0 : Int), ((0 : Int), (([] : List (Int × Int)), ())))))).2).1 + ((((List.getD (((y0).1).2).1 (@Option.getD Nat ((y0).2).1 (0 : Nat)) ((0 : Int), ((0 : Int), ((0 : Int), (([] : List (Int × Int)), ())))))).2).2).1))) - (Int.toNat (((List.getD (((y0).1).2).1 (@Option.getD Nat ((y0).2).1 (0 : Nat)) ((0 : Int), ((0 : Int), ((0 : Int), (([] : List (Int × Int)), ())))))).2).1))) ((List.getD ((y0).1).1 (@Option.getD Nat a_0 (0 : Nat)) (([] : List Int), (([] : List (Option Nat)), ())))).1)), ((List.getD ((y0).1).1 (@Option.getD Nat a_0 (0 : Nat)) (([] : List Int), (([] : List (Option Nat)), ())))).2)) (@Option.getD Nat a_0 (0 : Nat)) (([] : List Int), (([] : List (Option Nat)), ())))).2).1)))))
                                  (
                                  cond (decide ((@Option.getD Nat a_0 (0 : Nat)) = (@Option.getD Nat a_0 (0 : Nat))))
                                    (
                                    some (((List.set (List.set ((y0).1).1 (@Option.getD Nat a_0 (0 : Nat)) ((((List.take ((0 : Nat) + (Int.toNat (((List.getD (((y0).1).2).1 (@Option.getD Nat ((y0).2).1 (0 : Nat)) ((0 : Int), ((0 : Int), ((0 : Int), (([] : List (Int × Int)), ())))))).2).1)) ((List.getD ((y0).1).1 (@Option.getD Nat a_0 (0 : Nat)) (([] : List Int), (([] : List (Option Nat)), ())))).1) ++ (List.replicate ((Int.toNat (wi64 ((((List.getD (((y0).1).2).1 (@Option.getD Nat ((y0).2).1 (0 : Nat)) ((0 : Int), ((0 : Int), ((0 : Int), (([] : List (Int × Int)), ())))))).2).1 + ((((List.getD (((y0).1).2).1 (@Option.getD Nat ((y0).2).1 (0 : Nat)) ((0 : Int), ((0 : Int), ((0 : Int), (([] : List (Int × Int)), ())))))).2).2).1))) - (Int.toNat (((List.getD (((y0).1).2).1 (@Option.getD Nat ((y0).2).1 (0 : Nat)) ((0 : Int), ((0 : Int), ((0 : Int), (([] : List (Int × Int)), ())))))).2).1)) (0 : Int))) ++ (List.drop (((0 : Nat) + (Int.toNat (((List.getD (((y0).1).2).1 (@Option.getD Nat ((y0).2).1 (0 : Nat)) ((0 : Int), ((0 : Int), ((0 : Int), (([] : List (Int × Int)), ())))))).2).1)) + ((Int.toNat (wi64 ((((List.getD (((y0).1).2).1 (@Option.getD Nat ((y0).2).1 (0 : Nat)) ((0 : Int), ((0 : Int), ((0 : Int), (([] : List (Int × Int)), ())))))).2).1 + ((((List.getD (((y0).1).2).1 (@Option.getD Nat ((y0).2).1 (0 : Nat)) ((0 : Int), ((0 : Int), ((0 : Int), (([] : List (Int × Int)), ())))))).2).2).1))) - (Int.toNat (((List.getD (((y0).1).2).1 (@Option.getD Nat ((y0).2).1 (0 : Nat)) ((0 : Int), ((0 : Int), ((0 : Int), (([] : List (Int × Int)), ())))))).2).1))) ((List.getD ((y0).1).1 (@Option.getD Nat a_0 (0 : Nat)) (([] : List Int), (([] : List (Option Nat)), ())))).1)), ((List.getD ((y0).1).1 (@Option.getD Nat a_0 (0 : Nat)) (([] : List Int), (([] : List (Option Nat)), ())))).2)) (@Option.getD Nat a_0 (0 : Nat)) (((List.getD (List.set ((y0).1).1 (@Option.getD Nat a_0 (0 : Nat)) ((((List.take ((0 : Nat) + (Int.toNat (((List.getD (((y0).1).2).1 (@Option.getD Nat ((y0).2).1 (0 : Nat)) ((0 : Int), ((0 : Int), ((0 : Int), (([] : List (Int × Int)), ())))))).2).1)) ((List.getD ((y0).1).1 (@Option.getD Nat a_0 (0 : Nat)) (([] : List Int), (([] : List (Option Nat)), ())))).1) ++ (List.replicate ((Int.toNat (wi64 ((((List.getD (((y0).1).2).1 (@Option.getD Nat ((y0).2).1 (0 : Nat)) ((0 : Int), ((0 : Int), ((0 : Int), (([] : List (Int × Int)), ())))))).2).1 + ((((List.getD (((y0).1).2).1 (@Option.getD Nat ((y0).2).1 (0 : Nat)) ((0 : Int), ((0 : Int), ((0 : Int), (([] : List (Int × Int)), ())))))).2).2).1))) - (Int.toNat (((List.getD (((y0).1).2).1 (@Option.getD Nat ((y0).2).1 (0 : Nat)) ((0 : Int), ((0 : Int), ((0 : Int), (([] : List (Int × Int)), ())))))).2).1)) (0 : Int))) ++ (List.drop (((0 : Nat) + (Int.toNat (((List.getD (((y0).1).2).1 (@Option.getD Nat ((y0).2).1 (0 : Nat)) ((0 : Int), ((0 : Int), ((0 : Int), (([] : List (Int × Int)), ())))))).2).1)) + ((Int.toNat (wi64 ((((List.getD (((y0).1).2).1 (@Option.getD Nat ((y0).2).1 (0 : Nat)) ((0 : Int), ((0 : Int), ((0 : Int), (([] : List (Int × Int)), ())))))).2).1 + ((((List.getD (((y0).1).2).1 (@Option.getD Nat ((y0).2).1 (0 : Nat)) ((0 : Int), ((0 : Int), ((0 : Int), (([] : List (Int × Int)), ())))))).2).2).1))) - (Int.toNat (((List.getD (((y0).1).2).1 (@Option.getD Nat ((y0).2).1 (0 : Nat)) ((0 : Int), ((0 : Int), ((0 : Int), (([] : List (Int × Int)), ())))))).2).1))) ((List.getD ((y0).1).1 (@Option.getD Nat a_0 (0 : Nat)) (([] : List Int), (([] : List (Option Nat)), ())))).1)), ((List.getD ((y0).1).1 (@Option.getD Nat a_0 (0 : Nat)) (([] : List Int), (([] : List (Option Nat)), ())))).2)) (@Option.getD Nat a_0 (0 : Nat)) (([] : List Int), (([] : List (Option Nat)), ())))).1, ((List.take (List.length (@List.filter (Option Nat) (fun (y : (Option Nat)) => (Bool.not (decide (y = ((y0).2).1)))) (List.take (List.length (((List.getD (List.set ((y0).1).1 (@Option.getD Nat a_0 (0 : Nat)) ((((List.take ((0 : Nat) + (Int.toNat (((List.getD (((y0).1).2).1 (@Option.getD Nat ((y0).2).1 (0 : Nat)) ((0 : Int), ((0 : Int), ((0 : Int), (([] : List (Int × Int)), ())))))).2).1)) ((List.getD ((y0).1).1 (@Option.getD Nat a_0 (0 : Nat)) (([] : List Int), (([] : List (Option Nat)), ())))).1) ++ (List.replicate ((Int.toNat (wi64 ((((List.getD (((y0).1).2).1 (@Option.getD Nat ((y0).2).1 (0 : Nat)) ((0 : Int), ((0 : Int), ((0 : Int), (([] : List (Int × Int)), ())))))).2).1 + ((((List.getD (((y0).1).2).1 (@Option.getD Nat ((y0).2).1 (0 : Nat)) ((0 : Int), ((0 : Int), ((0 : Int), (([] : List (Int × Int)), ())))))).2).2).1))) - (Int.toNat (((List.getD (((y0).1).2).1 (@Option.getD Nat ((y0).2).1 (0 : Nat)) ((0 : Int), ((0 : Int), ((0 : Int), (([] : List (Int × Int)), ())))))).2).1)) (0 : Int))) ++ (List.drop (((0 : Nat) + (Int.toNat (((List.getD (((y0).1).2).1 (@Option.getD Nat ((y0).2).1 (0 : Nat)) ((0 : Int), ((0 : Int), ((0 : Int), (([] : List (Int × Int)), ())))))).2).1)) + ((Int.toNat (wi64 ((((List.getD (((y0).1).2).1 (@Option.getD Nat ((y0).2).1 (0 : Nat)) ((0 : Int), ((0 : Int), ((0 : Int), (([] : List (Int × Int)), ())))))).2).1 + ((((List.getD (((y0).1).2).1 (@Option.getD Nat ((y0).2).1 (0 : Nat)) ((0 : Int), ((0 : Int), ((0 : Int), (([] : List (Int × Int)), ())))))).2).2).1))) - (Int.toNat (((List.getD (((y0).1).2).1 (@Option.getD Nat ((y0).2).1 (0 : Nat)) ((0 : Int), ((0 : Int), ((0 : Int), (([] : List (Int × Int)), ())))))).2).1))) ((List.getD ((y0).1).1 (@Option.getD Nat a_0 (0 : Nat)) (([] : List Int), (([] : List (Option Nat)), ())))).1)), ((List.getD ((y0).1).1 (@Option.getD Nat a_0 (0 : Nat)) (([] : List Int), (([] : List (Option Nat)), ())))).2)) (@Option.getD Nat a_0 (0 : Nat)) (([] : List Int), (([] : List (Option Nat)), ())))).2).1) (((List.getD (List.set ((y0).1).1 (@Option.getD Nat a_0 (0 : Nat)) ((((List.take ((0 : Nat) + (Int.toNat (((List.getD (((y0).1).2).1 (@Option.getD Nat ((y0).2).1 (0 : Nat)) ((0 : Int), ((0 : Int), ((0 : Int), (([] : List (Int × Int)), ())))))).2).1)) ((List.getD ((y0).1).1 (@Option.getD Nat a_0 (0 : Nat)) (([] : List Int), (([] : List (Option Nat)), ())))).1) ++ (List.replicate ((Int.toNat (wi64 ((((List.getD (((y0).1).2).1 (@Option.getD Nat ((y0).2).1 (0 : Nat)) ((0 : Int), ((0 : Int), ((0 : Int), (([] : List (Int × Int)), ())))))).2).1 + ((((List.getD (((y0).1).2).1 (@Option.getD Nat ((y0).2).1 (0 : Nat)) ((0 : Int), ((0 : Int), ((0 : Int), (([] : List (Int × Int)), ())))))).2).2).1))) - (Int.toNat (((List.getD (((y0).1).2).1 (@Option.getD Nat ((y0).2).1 (0 : Nat)) ((0 : Int), ((0 : Int), ((0 : Int), (([] : List (Int × Int)), ())))))).2).1)) (0 : Int))) ++ (List.drop (((0 : Nat) + (Int.toNat (((List.getD (((y0).1).2).1 (@Option.getD Nat ((y0).2).1 (0 : Nat)) ((0 : Int), ((0 : Int), ((0 : Int), (([] : List (Int × Int)), ())))))).2).1)) + ((Int.toNat (wi64 ((((List.getD (((y0).1).2).1 (@Option.getD Nat ((y0).2).1 (0 : Nat)) ((0 : Int), ((0 : Int), ((0 : Int), (([] : List (Int × Int)), ())))))).2).1 + ((((List.getD (((y0).1).2).1 (@Option.getD Nat ((y0).2).1 (0 : Nat)) ((0 : Int), ((0 : Int), ((0 : Int), (([] : List (Int × Int)), ())))))).2).2).1))) - (Int.toNat (((List.getD (((y0).1).2).1 (@Option.getD Nat ((y0).2).1 (0 : Nat)) ((0 : Int), ((0 : Int), ((0 : Int), (([] : List (Int × Int)), ())))))).2).1))) ((List.getD ((y0).1).1 (@Option.getD Nat a_0 (0 : Nat)) (([] : List Int), (([] : List (Option Nat)), ())))).1)), ((List.getD ((y0).1).1 (@Option.getD Nat a_0 (0 : Nat)) (([] : List Int), (([] : List (Option Nat)), ())))).2)) (@Option.getD Nat a_0 (0 : Nat)) (([] : List Int), (([] : List (Option Nat)), ())))).2).1))) (@List.filter (Option Nat) (fun (y : (Option Nat)) => (Bool.not (decide (y = ((y0).2).1)))) (List.take (List.length (((List.getD (List.set ((y0).1).1 (@Option.getD Nat a_0 (0 : Nat)) ((((List.take ((0 : Nat) + (Int.toNat (((List.getD (((y0).1).2).1 (@Option.getD Nat ((y0).2).1 (0 : Nat)) ((0 : Int), ((0 : Int), ((0 : Int), (([] : List (Int × Int)), ())))))).2).1)) ((List.getD ((y0).1).1 (@Option.getD Nat a_0 (0 : Nat)) (([] : List Int), (([] : List (Option Nat)), ())))).1) ++ (List.replicate ((Int.toNat (wi64 ((((List.getD (((y0).1).2).1 (@Option.getD Nat ((y0).2).1 (0 : Nat)) ((0 : Int), ((0 : Int), ((0 : Int), (([] : List (Int × Int)), ())))))).2).1 + ((((List.getD (((y0).1).2).1 (@Option.getD Nat ((y0).2).1 (0 : Nat)) ((0 : Int), ((0 : Int), ((0 : Int), (([] : List (Int × Int)), ())))))).2).2).1))) - (Int.toNat (((List.getD (((y0).1).2).1 (@Option.getD Nat ((y0).2).1 (0 : Nat)) ((0 : Int), ((0 : Int), ((0 : Int), (([] : List (Int × Int)), ())))))).2).1)) (0 : Int))) ++ (List.drop (((0 : Nat) + (Int.toNat (((List.getD (((y0).1).2).1 (@Option.getD Nat ((y0).2).1 (0 : Nat)) ((0 : Int), ((0 : Int), ((0 : Int), (([] : List (Int × Int)), ())))))).2).1)) + ((Int.toNat (wi64 ((((List.getD (((y0).1).2).1 (@Option.getD Nat ((y0).2).1 (0 : Nat)) ((0 : Int), ((0 : Int), ((0 : Int), (([] : List (Int × Int)), ())))))).2).1 + ((((List.getD (((y0).1).2).1 (@Option.getD Nat ((y0).2).1 (0 : Nat)) ((0 : Int), ((0 : Int), ((0 : Int), (([] : List (Int × Int)), ())))))).2).2).1))) - (Int.toNat (((List.getD (((y0).1).2).1 (@Option.getD Nat ((y0).2).1 (0 : Nat)) ((0 : Int), ((0 : Int), ((0 : Int), (([] : List (Int × Int)), ())))))).2).1))) ((List.getD ((y0).1).1 (@Option.getD Nat a_0 (0 : Nat)) (([] : List Int), (([] : List (Option Nat)), ())))).1)), ((List.getD ((y0).1).1 (@Option.getD Nat a_0 (0 : Nat)) (([] : List Int), (([] : List (Option Nat)), ())))).2)) (@Option.getD Nat a_0 (0 : Nat)) (([] : List Int), (([] : List (Option Nat)), ())))).2).1) (((List.getD (List.set ((y0).1).1 (@Option.getD Nat a_0 (0 : Nat)) ((((List.take ((0 : Nat) + (Int.toNat (((List.getD (((y0).1).2).1 (@Option.getD Nat ((y0).2).1 (0 : Nat)) ((0 : Int), ((0 : Int), ((0 : Int), (([] : List (Int × Int)), ())))))).2).1)) ((List.getD ((y0).1).1 (@Option.getD Nat a_0 (0 : Nat)) (([] : List Int), (([] : List (Option Nat)), ())))).1) ++ (List.replicate ((Int.toNat (wi64 ((((List.getD (((y0).1).2).1 (@Option.getD Nat ((y0).2).1 (0 : Nat)) ((0 : Int), ((0 : Int), ((0 : Int), (([] : List (Int × Int)), ())))))).2).1 + ((((List.getD (((y0).1).2).1 (@Option.getD Nat ((y0).2).1 (0 : Nat)) ((0 : Int), ((0 : Int), ((0 : Int), (([] : List (Int × Int)), ())))))).2).2).1))) - (Int.toNat (((List.getD (((y0).1).2).1 (@Option.getD Nat ((y0).2).1 (0 : Nat)) ((0 : Int), ((0 : Int), ((0 : Int), (([] : List (Int × Int)), ())))))).2).1)) (0 : Int))) ++ (List.drop (((0 : Nat) + (Int.toNat (((List.getD (((y0).1).2).1 (@Option.getD Nat ((y0).2).1 (0 : Nat)) ((0 : Int), ((0 : Int), ((0 : Int), (([] : List (Int × Int)), ())))))).2).1)) + ((Int.toNat (wi64 ((((List.getD (((y0).1).2).1 (@Option.getD Nat ((y0).2).1 (0 : Nat)) ((0 : Int), ((0 : Int), ((0 : Int), (([] : List (Int × Int)), ())))))).2).1 + ((((List.getD (((y0).1).2).1 (@Option.getD Nat ((y0).2).1 (0 : Nat)) ((0 : Int), ((0 : Int), ((0 : Int), (([] : List (Int × Int)), ())))))).2).2).1))) - (Int.toNat (((List.getD (((y0).1).2).1 (@Option.getD Nat ((y0).2).1 (0 : Nat)) ((0 : Int), ((0 : Int), ((0 : Int), (([] : List (Int × Int)), ())))))).2).1))) ((List.getD ((y0).1).1 (@Option.getD Nat a_0 (0 : Nat)) (([] : List Int), (([] : List (Option Nat)), ())))).1)), ((List.getD ((y0).1).1 (@Option.getD Nat a_0 (0 : Nat)) (([] : List Int), (([] : List (Option Nat)), ())))).2)) (@Option.getD Nat a_0 (0 : Nat)) (([] : List Int), (([] : List (Option Nat)), ())))).2).1))), (((List.getD (List.set ((y0).1).1 (@Option.getD Nat a_0 (0 : Nat)) ((((List.take ((0 : Nat) + (Int.toNat (((List.getD (((y0).1).2).1 (@Option.getD Nat ((y0).2).1 (0 : Nat)) ((0 : Int), ((0 : Int), ((0 : Int), (([] : List (Int × Int)), ())))))).2).1)) ((List.getD ((y0).1).1 (@Option.getD Nat a_0 (0 : Nat)) (([] : List Int), (([] : List (Option Nat)), ())))).1) ++ (List.replicate ((Int.toNat (wi64 ((((List.getD (((y0).1).2).1 (@Option.getD Nat ((y0).2).1 (0 : Nat)) ((0 : Int), ((0 : Int), ((0 : Int), (([] : List (Int × Int)), ())))))).2).1 + ((((List.getD (((y0).1).2).1 (@Option.getD Nat ((y0).2).1 (0 : Nat)) ((0 : Int), ((0 : Int), ((0 : Int), (([] : List (Int × Int)), ())))))).2).2).1))) - (Int.toNat (((List.getD (((y0).1).2).1 (@Option.getD Nat ((y0).2).1 (0 : Nat)) ((0 : Int), ((0 : Int), ((0 : Int), (([] : List (Int × Int)), ())))))).2).1)) (0 : Int))) ++ (List.drop (((0 : Nat) + (Int.toNat (((List.getD (((y0).1).2).1 (@Option.getD Nat ((y0).2).1 (0 : Nat)) ((0 : Int), ((0 : Int), ((0 : Int), (([] : List (Int × Int)), ())))))).2).1)) + ((Int.toNat (wi64 ((((List.getD (((y0).1).2).1 (@Option.getD Nat ((y0).2).1 (0 : Nat)) ((0 : Int), ((0 : Int), ((0 : Int), (([] : List (Int × Int)), ())))))).2).1 + ((((List.getD (((y0).1).2).1 (@Option.getD Nat ((y0).2).1 (0 : Nat)) ((0 : Int), ((0 : Int), ((0 : Int), (([] : List (Int × Int)), ())))))).2).2).1))) - (Int.toNat (((List.getD (((y0).1).2).1 (@Option.getD Nat ((y0).2).1 (0 : Nat)) ((0 : Int), ((0 : Int), ((0 : Int), (([] : List (Int × Int)), ())))))).2).1))) ((List.getD ((y0).1).1 (@Option.getD Nat a_0 (0 : Nat)) (([] : List Int), (([] : List (Option Nat)), ())))).1)), ((List.getD ((y0).1).1 (@Option.getD Nat a_0 (0 : Nat)) (([] : List Int), (([] : List (Option Nat)), ())))).2)) (@Option.getD Nat a_0 (0 : Nat)) (([] : List Int), (([] : List (Option Nat)), ())))).2).2))), ((y0).1).2), (true, ())))
                                    (
                                    none))
                                  (
                                  none))
                                (
                                none))
                              (
                              none))
                            (
                            none))
                          (
                          none))
                        (
                        none))
                      (
                      none))
                    (
                    none))
                  (
                  none))
                (
                none))
              (
              none))
            (
            none))
          (
          none))
        (
        none))
      (
      none))

abbrev c_arena_Arena_Remove (N : Nat) : CallSpec E := ⟨16, ps_arena_Arena_Remove, rs_arena_Arena_Remove, fun x => F_arena_Arena_Remove N x.1.1 x.1.2.1 x.2.1 x.2.2.1⟩

theorem cs_arena_Arena_Remove_ok (S : Ini) (N : Nat) : CallsOK Go.Proofs.Tryd.prog E S (cs_arena_Arena_Remove N) :=
  .cons (F_arena_Arena_find_ok S N) (.cons (F_arena_Arena_Remove_1_ok S N) (.nil))
theorem F_arena_Arena_Remove_ok (S : Ini) (N : Nat) : ∀ x y, (c_arena_Arena_Remove N).g x = some y → FCon Go.Proofs.Tryd.prog E S 16 ps_arena_Arena_Remove rs_arena_Arena_Remove x y := by
  intro x y h
  exact fun_specJ E_ok mixed (cs_arena_Arena_Remove_ok S N) (f := 16) (fi := ⟨b_arena_Arena_Remove, 41, Go.Proofs.Tryd.f16.results.toList⟩) (by kernel_rfl) (ls := []) (.nil) (js := []) (by kernel_rfl) (ps := ps_arena_Arena_Remove) (rs := rs_arena_Arena_Remove) (Eq.trans (b := F_arena_Arena_Remove N x.1.1 x.1.2.1 x.2.1 x.2.2.1) (by kernel_rfl) h)

/-! lodge/lodgelaw13.ArenaParts -/

abbrev ps_lodgelaw13_ArenaParts : List Ty := [(.sl (.int .i64)), (.int .i64)]
abbrev rs_lodgelaw13_ArenaParts : List Slot := [.data .bool]
abbrev cs_lodgelaw13_ArenaParts (N : Nat) : List (CallSpec E) := [c_arena_New N, c_arena_Arena_Add N, c_lodgelaw13_first N, c_lodgeworld_Number N, c_lodgesee_Is N, c_arena_Arena_Parts N, c_arena_Arena_Remove N]
noncomputable abbrev b_lodgelaw13_ArenaParts : Code := (Go.Proofs.Tryd.f4.body).getD .skip

abbrev h_lodgelaw13_ArenaParts_0 : List Slot := [.data (.sl (.int .i64)), .data (.int .i64), .dead, .dead, .dead, .dead, .data (.hd 0), .dead, .data (.int .i64), .data (.int .i64), .dead, .dead, .dead, .dead, .dead, .dead, .dead, .dead, .dead, .dead, .dead, .dead, .dead, .dead, .dead, .dead, .dead, .dead, .dead, .dead, .dead, .dead, .dead, .dead, .dead, .dead, .dead, .dead, .dead, .dead, .dead, .dead, .dead, .dead, .dead, .dead, .dead, .dead, .dead, .dead, .dead, .dead, .dead, .dead, .dead, .dead, .dead, .dead, .dead, .dead, .dead, .dead, .dead, .dead, .dead, .dead, .dead, .dead, .dead, .dead, .dead, .dead, .dead, .dead, .dead, .dead, .dead, .dead, .dead, .dead, .dead, .dead, .dead, .dead, .dead, .dead, .dead, .dead, .dead, .dead, .dead, .dead, .dead, .dead, .dead, .dead, .dead, .dead, .dead, .dead, .dead, .dead, .dead, .dead, .dead, .dead, .dead, .dead, .dead, .dead, .dead, .dead, .dead, .dead, .dead, .dead, .dead, .dead, .dead, .dead, .dead, .dead, .dead, .dead, .dead, .dead, .dead, .dead, .dead, .dead, .dead, .dead, .dead, .dead, .dead, .dead, .dead, .dead, .dead, .dead, .dead, .dead, .dead, .dead, .dead, .dead, .dead, .dead, .dead, .dead, .dead, .dead, .dead, .dead, .dead, .dead, .dead, .dead, .dead, .dead, .dead, .dead, .dead, .dead, .dead, .dead, .dead, .dead, .dead, .dead]
abbrev e_lodgelaw13_ArenaParts_0 : List (AX × List Slot) := [(AX.exit 0, [.data (.sl (.int .i64)), .data (.int .i64), .dead, .dead, .dead, .dead, .data (.hd 0), .dead, .data (.int .i64), .dead, .dead, .dead, .dead, .dead, .dead, .dead, .dead, .dead, .dead, .dead, .dead, .dead, .dead, .dead, .dead, .dead, .dead, .dead, .dead, .dead, .dead, .dead, .dead, .dead, .dead, .dead, .dead, .dead, .dead, .dead, .dead, .dead, .dead, .dead, .dead, .dead, .dead, .dead, .dead, .dead, .dead, .dead, .dead, .dead, .dead, .dead, .dead, .dead, .dead, .dead, .dead, .dead, .dead, .dead, .dead, .dead, .dead, .dead, .dead, .dead, .dead, .dead, .dead, .dead, .dead, .dead, .dead, .dead, .dead, .dead, .dead, .dead, .dead, .dead, .dead, .dead, .dead, .dead, .dead, .dead, .dead, .dead, .dead, .dead, .dead, .dead, .dead, .dead, .dead, .dead, .dead, .dead, .dead, .dead, .dead, .dead, .dead, .dead, .dead, .dead, .dead, .dead, .dead, .dead, .dead, .dead, .dead, .dead, .dead, .dead, .dead, .dead, .dead, .dead, .dead, .dead, .dead, .dead, .dead, .dead, .dead, .dead, .dead, .dead, .dead, .dead, .dead, .dead, .dead, .dead, .dead, .dead, .dead, .dead, .dead, .dead, .dead, .dead, .dead, .dead, .dead, .dead, .dead, .dead, .dead, .dead, .dead, .dead, .dead, .dead, .dead, .dead, .dead, .dead, .dead, .dead, .dead, .dead, .dead, .dead]), (AX.ret, [.dead, .dead, .dead, .dead, .data .bool, .dead, .dead, .dead, .dead, .dead, .dead, .dead, .dead, .dead, .dead, .dead, .dead, .dead, .dead, .dead, .dead, .dead, .dead, .dead, .dead, .dead, .dead, .dead, .dead, .dead, .dead, .dead, .dead, .dead, .dead, .dead, .dead, .dead, .dead, .dead, .dead, .dead, .dead, .dead, .dead, .dead, .dead, .dead, .dead, .dead, .dead, .dead, .dead, .dead, .dead, .dead, .dead, .dead, .dead, .dead, .dead, .dead, .dead, .dead, .dead, .dead, .dead, .dead, .dead, .dead, .dead, .dead, .dead, .dead, .dead, .dead, .dead, .dead, .dead, .dead, .dead, .dead, .dead, .dead, .dead, .dead, .dead, .dead, .dead, .dead, .dead, .dead, .dead, .dead, .dead, .dead, .dead, .dead, .dead, .dead, .dead, .dead, .dead, .dead, .dead, .dead, .dead, .dead, .dead, .dead, .dead, .dead, .dead, .dead, .dead, .dead, .dead, .dead, .dead, .dead, .dead, .dead, .dead, .dead, .dead, .dead, .dead, .dead, .dead, .dead, .dead, .dead, .dead, .dead, .dead, .dead, .dead, .dead, .dead, .dead, .dead, .dead, .dead, .dead, .dead, .dead, .dead, .dead, .dead, .dead, .dead, .dead, .dead, .dead, .dead, .dead, .dead, .dead, .dead, .dead, .dead, .dead, .dead, .dead, .dead, .dead, .dead, .dead, .dead, .dead])]
def g_lodgelaw13_ArenaParts_0 (N : Nat) : Nat → List (List Int × (List (Option Nat) × Unit)) → List (Int × (Int × (Int × (List ((Int × Int)) × Unit)))) → List Int → Int → Option Nat → Int → Int → Option (Sum ((List (List Int × (List (Option Nat) × Unit)) × (List (Int × (Int × (Int × (List ((Int × Int)) × Unit)))) × Unit)) × (List Int × (Int × (Option Nat × (Int × Unit))))) ((List (List Int × (List (Option Nat) × Unit)) × (List (Int × (Int × (Int × (List ((Int × Int)) × Unit)))) × Unit)) × (Bool × Unit)))
  | 0, _, _, _, _, _, _, _ => none
  | n + 1, T0, T1, l_0, at_1, a_6, off_8, i_9 =>
    cond (decide (i_9 < (Nat.cast (List.length l_0) : Int)))
      (
      cond (decide ((0 : Int) ≤ i_9))
        (
        cond (decide ((Int.toNat i_9) < (List.length l_0)))
          (
          Option.bind (F_lodgeworld_Number N (List.getD l_0 (Int.toNat i_9) (0 : Int)) (50 : Int)) fun y6 =>
          Option.bind (F_arena_Arena_Add N T0 T1 a_6 i_9 (wi64 (((y6).2).1 + (1 : Int)))) fun y7 =>
          cond (Bool.not (Go.Eng.Er.isNil (((y7).2).2).1))
            (
            some (Sum.inr ((y7).1, (false, ()))))
            (
            cond (decide (@Ne Int ((((y7).2).1).2).1 off_8))
              (
              some (Sum.inr ((y7).1, (false, ()))))
              (
              cond (decide (@Ne Int ((((y7).2).1).2).2 (wi64 (((y6).2).1 + (1 : Int)))))
                (
                some (Sum.inr ((y7).1, (false, ()))))
                (
                cond (decide (@Ne Int (((y7).2).1).1 i_9))
                  (
                  some (Sum.inr ((y7).1, (false, ()))))
                  (
                  (g_lodgelaw13_ArenaParts_0 N n ((y7).1).1 (((y7).1).2).1 l_0 at_1 a_6 (wi64 (off_8 + (wi64 (((y6).2).1 + (1 : Int))))) (wi64 (i_9 + (1 : Int)))))))))
          (
          none))
        (
        none))
      (
      some (Sum.inl ((T0, (T1, ())), (l_0, (at_1, (a_6, (off_8, ())))))))

abbrev j_lodgelaw13_ArenaParts : Joins := [(23, [(AX.normal, [.dead, .dead, .dead, .dead, .dead, .dead, .data (.hd 0), .dead, .data (.int .i64), .dead, .dead, .dead, .dead, .dead, .dead, .dead, .dead, .dead, .dead, .dead, .dead, .dead, .dead, .dead, .dead, .dead, .dead, .dead, .dead, .dead, .dead, .dead, .dead, .dead, .dead, .dead, .dead, .dead, .dead, .dead, .dead, .dead, .dead, .dead, .dead, .dead, .dead, .dead, .dead, .dead, .dead, .dead, .dead, .dead, .dead, .dead, .dead, .dead, .dead, .dead, .dead, .dead, .dead, .dead, .dead, .dead, .dead, .dead, .dead, .dead, .dead, .dead, .dead, .dead, .dead, .dead, .dead, .dead, .dead, .dead, .dead, .dead, .dead, .dead, .dead, .dead, .dead, .dead, .dead, .dead, .dead, .dead, .dead, .dead, .dead, .dead, .dead, .dead, .dead, .dead, .dead, .dead, .dead, .dead, .dead, .dead, .dead, .dead, .dead, .dead, .dead, .dead, .dead, .dead, .dead, .dead, .dead, .dead, .dead, .dead, .dead, .dead, .dead, .dead, .dead, .dead, .dead, .dead, .dead, .dead, .dead, .dead, .dead, .dead, .data .bool, .dead, .dead, .dead, .dead, .dead, .dead, .dead, .dead, .dead, .dead, .dead, .dead, .dead, .dead, .dead, .dead, .dead, .dead, .dead, .dead, .dead, .dead, .dead, .dead, .dead, .dead, .dead, .dead, .dead, .dead, .dead, .dead, .dead, .dead, .dead])]),
  (19, [(AX.normal, [.dead, .dead, .dead, .dead, .dead, .dead, .data (.hd 0), .dead, .data (.int .i64), .dead, .dead, .dead, .dead, .dead, .data (.int .i64), .box [.d (.st (.pair (.int .i64) (.pair (.int .i64) (.int .i64))))], .dead, .dead, .dead, .dead, .dead, .dead, .dead, .dead, .dead, .dead, .dead, .dead, .dead, .dead, .dead, .dead, .dead, .dead, .dead, .dead, .dead, .dead, .dead, .dead, .dead, .dead, .dead, .dead, .dead, .dead, .dead, .dead, .dead, .dead, .dead, .dead, .dead, .dead, .dead, .dead, .dead, .dead, .dead, .dead, .dead, .dead, .dead, .dead, .dead, .dead, .dead, .dead, .dead, .dead, .dead, .dead, .dead, .dead, .dead, .dead, .dead, .dead, .dead, .dead, .dead, .dead, .dead, .dead, .dead, .dead, .dead, .dead, .dead, .dead, .dead, .dead, .dead, .dead, .dead, .dead, .dead, .dead, .dead, .dead, .dead, .dead, .dead, .dead, .dead, .dead, .dead, .dead, .dead, .dead, .dead, .dead, .dead, .dead, .dead, .dead, .dead, .dead, .dead, .data .bool, .dead, .dead, .dead, .dead, .dead, .dead, .dead, .dead, .dead, .dead, .dead, .dead, .dead, .dead, .dead, .dead, .dead, .dead, .dead, .dead, .dead, .dead, .dead, .dead, .dead, .dead, .dead, .dead, .dead, .dead, .dead, .dead, .dead, .dead, .dead, .dead, .dead, .dead, .dead, .dead, .dead, .dead, .dead, .dead, .dead, .dead, .dead, .dead, .dead, .dead])]),
  (10, [(AX.normal, [.data (.sl (.int .i64)), .data (.int .i64), .dead, .dead, .dead, .dead, .data (.hd 0), .dead, .dead, .dead, .dead, .dead, .dead, .dead, .dead, .dead, .dead, .dead, .dead, .dead, .dead, .dead, .dead, .dead, .dead, .dead, .dead, .dead, .dead, .dead, .dead, .dead, .dead, .dead, .dead, .dead, .dead, .dead, .dead, .dead, .dead, .dead, .dead, .dead, .dead, .dead, .dead, .dead, .dead, .data .bool, .dead, .dead, .dead, .dead, .dead, .dead, .dead, .dead, .dead, .dead, .dead, .dead, .dead, .dead, .dead, .dead, .dead, .dead, .dead, .dead, .dead, .dead, .dead, .dead, .dead, .dead, .dead, .dead, .dead, .dead, .dead, .dead, .dead, .dead, .dead, .dead, .dead, .dead, .dead, .dead, .dead, .dead, .dead, .dead, .dead, .dead, .dead, .dead, .dead, .dead, .dead, .dead, .dead, .dead, .dead, .dead, .dead, .dead, .dead, .dead, .dead, .dead, .dead, .dead, .dead, .dead, .dead, .dead, .dead, .dead, .dead, .dead, .dead, .dead, .dead, .dead, .dead, .dead, .dead, .dead, .dead, .dead, .dead, .dead, .dead, .dead, .dead, .dead, .dead, .dead, .dead, .dead, .dead, .dead, .dead, .dead, .dead, .dead, .dead, .dead, .dead, .dead, .dead, .dead, .dead, .dead, .dead, .dead, .dead, .dead, .dead, .dead, .dead, .dead, .dead, .dead, .dead, .dead, .dead, .dead])]),
  (6, [(AX.normal, [.data (.sl (.int .i64)), .data (.int .i64), .dead, .dead, .dead, .data .bool, .dead, .dead, .dead, .dead, .dead, .dead, .dead, .dead, .dead, .dead, .dead, .dead, .dead, .dead, .dead, .dead, .dead, .dead, .dead, .dead, .dead, .dead, .dead, .dead, .dead, .dead, .dead, .dead, .dead, .dead, .dead, .dead, .data .bool, .dead, .dead, .dead, .dead, .dead, .dead, .dead, .dead, .dead, .dead, .dead, .dead, .dead, .dead, .dead, .dead, .dead, .dead, .dead, .dead, .dead, .dead, .dead, .dead, .dead, .dead, .dead, .dead, .dead, .dead, .dead, .dead, .dead, .dead, .dead, .dead, .dead, .dead, .dead, .dead, .dead, .dead, .dead, .dead, .dead, .dead, .dead, .dead, .dead, .dead, .dead, .dead, .dead, .dead, .dead, .dead, .dead, .dead, .dead, .dead, .dead, .dead, .dead, .dead, .dead, .dead, .dead, .dead, .dead, .dead, .dead, .dead, .dead, .dead, .dead, .dead, .dead, .dead, .dead, .dead, .dead, .dead, .dead, .dead, .dead, .dead, .dead, .dead, .dead, .dead, .dead, .dead, .dead, .dead, .dead, .dead, .dead, .dead, .dead, .dead, .dead, .dead, .dead, .dead, .dead, .dead, .dead, .dead, .dead, .dead, .dead, .dead, .dead, .dead, .dead, .dead, .dead, .dead, .dead, .dead, .dead, .dead, .dead, .dead, .dead, .dead, .dead, .dead, .dead, .dead, .dead])])]
def F_lodgelaw13_ArenaParts (N : Nat) (T0 : List (List Int × (List (Option Nat) × Unit))) (T1 : List (Int × (Int × (Int × (List ((Int × Int)) × Unit))))) (l_0 : List Int) (at_1 : Int) : Option ((List (List Int × (List (Option Nat) × Unit)) × (List (Int × (Int × (Int × (List ((Int × Int)) × Unit)))) × Unit)) × (Bool × Unit)) :=
  Option.bind (F_lodgelaw13_first N T0 T1) fun y0 =>
  cond (Bool.not ((y0).2).1)
    (
    some ((y0).1, (false, ())))
    (
    Option.bind (
        cond (decide ((12 : Int) < (Nat.cast (List.length l_0) : Int)))
          (
          some ((y0).1, (l_0, (at_1, (((y0).2).1, (true, ()))))))
          (
          cond (decide ((Nat.cast (List.length l_0) : Int) = (0 : Int)))
            (
            some ((y0).1, (l_0, (at_1, (((y0).2).1, (true, ()))))))
            (
            some ((y0).1, (l_0, (at_1, (((y0).2).1, ((Bool.not ((y0).2).1), ())))))))) fun y1 =>
    cond (((((y1).2).2).2).2).1
      (
      some ((y1).1, (((((y1).2).2).2).1, ())))
      (
      Option.bind (F_arena_New N ((y1).1).1 (((y1).1).2).1 (700 : Int)) fun y2 =>
      Option.bind (
          cond (@Option.isNone Nat ((y2).2).1)
            (
            some ((y2).1, (((y1).2).1, ((((y1).2).2).1, (((y2).2).1, (true, ()))))))
            (
            some ((y2).1, (((y1).2).1, ((((y1).2).2).1, (((y2).2).1, ((Bool.not (Go.Eng.Er.isNil (((y2).2).2).1)), ()))))))) fun y3 =>
      cond (((((y3).2).2).2).2).1
        (
        some ((y3).1, (false, ())))
        (
        Option.bind (g_lodgelaw13_ArenaParts_0 N N ((y3).1).1 (((y3).1).2).1 ((y3).2).1 (((y3).2).2).1 ((((y3).2).2).2).1 (0 : Int) (0 : Int)) fun y4 =>
        Sum.elim (fun y5 =>
          Option.bind (F_lodgeworld_Number N (((y5).2).2).1 (Nat.cast (List.length ((y5).2).1) : Int)) fun y6 =>
          cond (decide ((0 : Int) ≤ ((y6).2).1))
            (
            cond (decide ((Int.toNat ((y6).2).1) < (List.length ((y5).2).1)))
              (
              Option.bind (F_lodgeworld_Number N (List.getD ((y5).2).1 (Int.toNat ((y6).2).1) (0 : Int)) (50 : Int)) fun y7 =>
              Option.bind (F_arena_Arena_Parts N ((y5).1).1 (((y5).1).2).1 ((((y5).2).2).2).1) fun y8 =>
              cond (decide ((0 : Int) ≤ ((y6).2).1))
                (
                cond (decide ((Int.toNat ((y6).2).1) < (List.length ((y8).2).1)))
                  (
                  cond (decide (((0 : Nat) + (Int.toNat ((y6).2).1)) < (List.length ((y8).2).1)))
                    (
                    Option.bind (
                        Option.bind (F_arena_Arena_Remove N ((y8).1).1 (((y8).1).2).1 ((((y5).2).2).2).1 ((y6).2).1) fun y9 =>
                        cond (Bool.not ((y9).2).1)
                          (
                          some ((y9).1, (((((y5).2).2).2).1, ((((((y5).2).2).2).2).1, ((wi64 (((y7).2).1 + (1 : Int))), (((List.getD ((y8).2).1 ((0 : Nat) + (Int.toNat ((y6).2).1)) ((0 : Int), ((0 : Int), (0 : Int)))), ()), (true, ())))))))
                          (
                          Option.bind (F_arena_Arena_Parts N ((y9).1).1 (((y9).1).2).1 ((((y5).2).2).2).1) fun y10 =>
                          some ((y10).1, (((((y5).2).2).2).1, ((((((y5).2).2).2).2).1, ((wi64 (((y7).2).1 + (1 : Int))), (((List.getD ((y8).2).1 ((0 : Nat) + (Int.toNat ((y6).2).1)) ((0 : Int), ((0 : Int), (0 : Int)))), ()), ((decide (@Ne Int (Nat.cast (List.length ((y10).2).1) : Int) (wi64 ((Nat.cast (List.length ((y5).2).1) : Int) - (1 : Int))))), ())))))))) fun y11 =>
                    cond ((((((y11).2).2).2).2).2).1
                      (
                      some ((y11).1, (false, ())))
                      (
                      Option.bind (F_arena_Arena_Add N ((y11).1).1 (((y11).1).2).1 ((y11).2).1 (100 : Int) ((((y11).2).2).2).1) fun y12 =>
                      Option.bind (
                          cond (Bool.not (Go.Eng.Er.isNil (((y12).2).2).1))
                            (
                            some ((y12).1, (((y11).2).1, ((((y11).2).2).1, (true, ())))))
                            (
                            some ((y12).1, (((y11).2).1, ((((y11).2).2).1, ((decide (@Ne Int ((((y12).2).1).2).1 ((((((((y11).2).2).2).2).1).1).2).1)), ())))))) fun y13 =>
                      cond ((((y13).2).2).2).1
                        (
                        some ((y13).1, (false, ())))
                        (
                        Option.bind (F_arena_Arena_Add N ((y13).1).1 (((y13).1).2).1 ((y13).2).1 (100 : Int) (1 : Int)) fun y14 =>
                        Option.bind (F_arena_Arena_Add N ((y14).1).1 (((y14).1).2).1 ((y13).2).1 (200 : Int) (wi64 ((701 : Int) - (((y13).2).2).1))) fun y15 =>
                        Option.bind (F_arena_Arena_Add N ((y15).1).1 (((y15).1).2).1 ((y13).2).1 (200 : Int) (wi64 ((700 : Int) - (((y13).2).2).1))) fun y16 =>
                        Option.bind (F_lodgesee_Is N (((y14).2).2).1 (102 : Int)) fun y17 =>
                        cond ((y17).2).1
                          (
                          Option.bind (F_lodgesee_Is N (((y15).2).2).1 (106 : Int)) fun y18 =>
                          cond ((y18).2).1
                            (
                            cond (Go.Eng.Er.isNil (((y16).2).2).1)
                              (
                              some ((y16).1, ((decide (((((y16).2).1).2).1 = (((y13).2).2).1)), ())))
                              (
                              some ((y16).1, (false, ()))))
                            (
                            some ((y16).1, (false, ()))))
                          (
                          some ((y16).1, (false, ()))))))
                    (
                    none))
                  (
                  none))
                (
                none))
              (
              none))
            (
            none))
          (fun y19 =>
          some y19) y4)))

abbrev c_lodgelaw13_ArenaParts (N : Nat) : CallSpec E := ⟨4, ps_lodgelaw13_ArenaParts, rs_lodgelaw13_ArenaParts, fun x => F_lodgelaw13_ArenaParts N x.1.1 x.1.2.1 x.2.1 x.2.2.1⟩
abbrev l_lodgelaw13_ArenaParts_0 (N : Nat) : LoopSpec E [0, 1] := ⟨0, h_lodgelaw13_ArenaParts_0, e_lodgelaw13_ArenaParts_0, fun x => g_lodgelaw13_ArenaParts_0 N N x.1.1 x.1.2.1 x.2.1 x.2.2.1 x.2.2.2.1 x.2.2.2.2.1 x.2.2.2.2.2.1⟩

theorem cs_lodgelaw13_ArenaParts_ok (S : Ini) (N : Nat) : CallsOK Go.Proofs.Tryd.prog E S (cs_lodgelaw13_ArenaParts N) :=
  .cons (F_arena_New_ok S N) (.cons (F_arena_Arena_Add_ok S N) (.cons (F_lodgelaw13_first_ok S N) (.cons (F_lodgeworld_Number_ok S N) (.cons (F_lodgesee_Is_ok S N) (.cons (F_arena_Arena_Parts_ok S N) (.cons (F_arena_Arena_Remove_ok S N) (.nil)))))))
noncomputable abbrev b_lodgelaw13_ArenaParts_0 : Code := (loopsOf b_lodgelaw13_ArenaParts).getD 0 .skip
theorem g_lodgelaw13_ArenaParts_0_ok (S : Ini) (N : Nat) : ∀ n x y, (fun (x : StV E [0, 1] h_lodgelaw13_ArenaParts_0) => g_lodgelaw13_ArenaParts_0 N n x.1.1 x.1.2.1 x.2.1 x.2.2.1 x.2.2.2.1 x.2.2.2.2.1 x.2.2.2.2.2.1) x = some y → LoopCon Go.Proofs.Tryd.prog E S b_lodgelaw13_ArenaParts_0 (encSlots E [0, 1] h_lodgelaw13_ArenaParts_0 x) (encEx E [0, 1] e_lodgelaw13_ArenaParts_0 y).1 (encEx E [0, 1] e_lodgelaw13_ArenaParts_0 y).2 :=
  loop_specJ E_ok mixed (E_ok.ks 4) (cs_lodgelaw13_ArenaParts_ok S N) (all := loopsOf b_lodgelaw13_ArenaParts) (ls := []) (.nil) (js := []) (i := 0) (by kernel_rfl) (inner_of (by kernel_rfl)) (head := h_lodgelaw13_ArenaParts_0) (ex := e_lodgelaw13_ArenaParts_0) (fun n (x : StV E [0, 1] h_lodgelaw13_ArenaParts_0) => g_lodgelaw13_ArenaParts_0 N n x.1.1 x.1.2.1 x.2.1 x.2.2.1 x.2.2.2.1 x.2.2.2.2.1 x.2.2.2.2.2.1) (fun _ => rfl) (fun n x => by kernel_rfl)
theorem F_lodgelaw13_ArenaParts_ok (S : Ini) (N : Nat) : ∀ x y, (c_lodgelaw13_ArenaParts N).g x = some y → FCon Go.Proofs.Tryd.prog E S 4 ps_lodgelaw13_ArenaParts rs_lodgelaw13_ArenaParts x y := by
  intro x y h
  exact fun_specJ E_ok mixed (cs_lodgelaw13_ArenaParts_ok S N) (f := 4) (fi := ⟨b_lodgelaw13_ArenaParts, 170, Go.Proofs.Tryd.f4.results.toList⟩) (by kernel_rfl) (ls := [l_lodgelaw13_ArenaParts_0 N]) (.cons (by kernel_rfl) (g_lodgelaw13_ArenaParts_0_ok S N N) (.nil)) (js := j_lodgelaw13_ArenaParts) (by kernel_rfl) (ps := ps_lodgelaw13_ArenaParts) (rs := rs_lodgelaw13_ArenaParts) (Eq.trans (b := F_lodgelaw13_ArenaParts N x.1.1 x.1.2.1 x.2.1 x.2.2.1) (by kernel_rfl) h)

/-! (*lodge/arena.Arena).within -/

abbrev ps_arena_Arena_within : List Ty := [(.hd 0), (.int .i64), (.int .i64), (.int .i64)]
abbrev rs_arena_Arena_within : List Slot := [.bor (.int .u8) 0 1, .data .bool]
abbrev cs_arena_Arena_within (N : Nat) : List (CallSpec E) := [c_arena_Arena_find N]
noncomputable abbrev b_arena_Arena_within : Code := (Go.Proofs.Tryd.f33.body).getD .skip

abbrev h_arena_Arena_within_0 : List Slot := [.data (.hd 0), .dead, .data (.int .i64), .data (.int .i64), .dead, .dead, .dead, .dead, .dead, .dead, .data (.hd 1), .dead, .dead, .dead, .dead, .dead, .dead, .dead, .dead, .dead, .dead, .dead, .dead, .dead, .dead, .bor (.st (.pair (.int .i64) (.int .i64))) 1 1, .data (.int .i64), .data (.int .i64), .dead, .dead, .dead, .dead, .dead, .dead, .dead, .dead, .dead, .dead, .dead, .dead, .dead, .dead, .dead, .dead, .dead, .dead, .dead, .dead, .dead, .dead, .dead, .dead, .dead, .dead, .dead, .dead, .dead, .dead, .dead, .dead, .dead, .dead, .dead, .dead, .dead, .dead, .dead, .dead, .dead, .dead, .dead, .dead, .dead, .dead, .dead, .dead, .dead]
abbrev e_arena_Arena_within_0 : List (AX × List Slot) := [(AX.exit 0, [.dead, .dead, .dead, .dead, .dead, .dead, .dead, .dead, .dead, .dead, .dead, .dead, .dead, .dead, .dead, .dead, .dead, .dead, .dead, .dead, .dead, .dead, .dead, .dead, .dead, .dead, .dead, .dead, .dead, .dead, .dead, .dead, .dead, .dead, .dead, .dead, .dead, .dead, .dead, .dead, .dead, .dead, .dead, .dead, .dead, .dead, .dead, .dead, .dead, .dead, .dead, .dead, .dead, .dead, .dead, .dead, .dead, .dead, .dead, .dead, .dead, .dead, .dead, .dead, .dead, .dead, .dead, .dead, .dead, .dead, .dead, .dead, .dead, .dead, .dead, .dead, .dead]), (AX.ret, [.dead, .dead, .dead, .dead, .dead, .dead, .dead, .dead, .bor (.int .u8) 0 1, .data .bool, .dead, .dead, .dead, .dead, .dead, .dead, .dead, .dead, .dead, .dead, .dead, .dead, .dead, .dead, .dead, .dead, .dead, .dead, .dead, .dead, .dead, .dead, .dead, .dead, .dead, .dead, .dead, .dead, .dead, .dead, .dead, .dead, .dead, .dead, .dead, .dead, .dead, .dead, .dead, .dead, .dead, .dead, .dead, .dead, .dead, .dead, .dead, .dead, .dead, .dead, .dead, .dead, .dead, .dead, .dead, .dead, .dead, .dead, .dead, .dead, .dead, .dead, .dead, .dead, .dead, .dead, .dead])]
def g_arena_Arena_within_0 (N : Nat) : Nat → List (List Int × (List (Option Nat) × Unit)) → List (Int × (Int × (Int × (List ((Int × Int)) × Unit)))) → Option Nat → Int → Int → Option Nat → (Nat × (Nat × Nat)) → Int → Int → Option (Sum ((List (List Int × (List (Option Nat) × Unit)) × (List (Int × (Int × (Int × (List ((Int × Int)) × Unit)))) × Unit)) × Unit) ((List (List Int × (List (Option Nat) × Unit)) × (List (Int × (Int × (Int × (List ((Int × Int)) × Unit)))) × Unit)) × ((Nat × (Nat × Nat)) × (Bool × Unit))))
  | 0, _, _, _, _, _, _, _, _, _ => none
  | n + 1, T0, T1, a_0, off_2, n_3, p_10, t_25, t_26, t_27 =>
    cond (decide (t_27 < t_26))
      (
      cond (decide ((0 : Int) ≤ t_27))
        (
        cond (decide ((Int.toNat t_27) < ((t_25).2).2))
          (
          cond (decide ((((t_25).2).1 + (Int.toNat t_27)) < (List.length (((((List.getD T1 (t_25).1 ((0 : Int), ((0 : Int), ((0 : Int), (([] : List (Int × Int)), ())))))).2).2).2).1)))
            (
            cond (decide (((List.getD (((((List.getD T1 (t_25).1 ((0 : Int), ((0 : Int), ((0 : Int), (([] : List (Int × Int)), ())))))).2).2).2).1 (((t_25).2).1 + (Int.toNat t_27)) ((0 : Int), (0 : Int)))).1 ≤ off_2))
              (
              cond (decide (off_2 ≤ (wi64 (((List.getD (((((List.getD T1 (t_25).1 ((0 : Int), ((0 : Int), ((0 : Int), (([] : List (Int × Int)), ())))))).2).2).2).1 (((t_25).2).1 + (Int.toNat t_27)) ((0 : Int), (0 : Int)))).1 + ((List.getD (((((List.getD T1 (t_25).1 ((0 : Int), ((0 : Int), ((0 : Int), (([] : List (Int × Int)), ())))))).2).2).2).1 (((t_25).2).1 + (Int.toNat t_27)) ((0 : Int), (0 : Int)))).2))))
                (
                cond (decide (n_3 ≤ (wi64 ((wi64 (((List.getD (((((List.getD T1 (t_25).1 ((0 : Int), ((0 : Int), ((0 : Int), (([] : List (Int × Int)), ())))))).2).2).2).1 (((t_25).2).1 + (Int.toNat t_27)) ((0 : Int), (0 : Int)))).1 + ((List.getD (((((List.getD T1 (t_25).1 ((0 : Int), ((0 : Int), ((0 : Int), (([] : List (Int × Int)), ())))))).2).2).2).1 (((t_25).2).1 + (Int.toNat t_27)) ((0 : Int), (0 : Int)))).2)) - off_2))))
                  (
                  cond (@Option.isSome Nat a_0)
                    (
                    cond (@Option.isSome Nat p_10)
                      (
                      cond (@Option.isSome Nat p_10)
                        (
                        cond (decide ((0 : Int) ≤ (wi64 ((((List.getD T1 (@Option.getD Nat p_10 (0 : Nat)) ((0 : Int), ((0 : Int), ((0 : Int), (([] : List (Int × Int)), ())))))).2).1 + off_2))))
                          (
                          cond (decide ((0 : Int) ≤ (wi64 ((wi64 ((((List.getD T1 (@Option.getD Nat p_10 (0 : Nat)) ((0 : Int), ((0 : Int), ((0 : Int), (([] : List (Int × Int)), ())))))).2).1 + off_2)) + n_3))))
                            (
                            cond (decide ((Int.toNat (wi64 ((((List.getD T1 (@Option.getD Nat p_10 (0 : Nat)) ((0 : Int), ((0 : Int), ((0 : Int), (([] : List (Int × Int)), ())))))).2).1 + off_2))) ≤ (Int.toNat (wi64 ((wi64 ((((List.getD T1 (@Option.getD Nat p_10 (0 : Nat)) ((0 : Int), ((0 : Int), ((0 : Int), (([] : List (Int × Int)), ())))))).2).1 + off_2)) + n_3)))))
                              (
                              cond (decide ((Int.toNat (wi64 ((wi64 ((((List.getD T1 (@Option.getD Nat p_10 (0 : Nat)) ((0 : Int), ((0 : Int), ((0 : Int), (([] : List (Int × Int)), ())))))).2).1 + off_2)) + n_3))) ≤ (List.length ((List.getD T0 (@Option.getD Nat a_0 (0 : Nat)) (([] : List Int), (([] : List (Option Nat)), ())))).1)))
                                (
                                some (Sum.inr ((T0, (T1, ())), (((@Option.getD Nat a_0 (0 : Nat)), (((0 : Nat) + (Int.toNat (wi64 ((((List.getD T1 (@Option.getD Nat p_10 (0 : Nat)) ((0 : Int), ((0 : Int), ((0 : Int), (([] : List (Int × Int)), ())))))).2).1 + off_2)))), ((Int.toNat (wi64 ((wi64 ((((List.getD T1 (@Option.getD Nat p_10 (0 : Nat)) ((0 : Int), ((0 : Int), ((0 : Int), (([] : List (Int × Int)), ())))))).2).1 + off_2)) + n_3))) - (Int.toNat (wi64 ((((List.getD T1 (@Option.getD Nat p_10 (0 : Nat)) ((0 : Int), ((0 : Int), ((0 : Int), (([] : List (Int × Int)), ())))))).2).1 + off_2)))))), (true, ())))))
                                (
                                none))
                              (
                              none))
                            (
                            none))
                          (
                          none))
                        (
                        none))
                      (
                      none))
                    (
                    none))
                  (
                  (g_arena_Arena_within_0 N n T0 T1 a_0 off_2 n_3 p_10 t_25 t_26 (wi64 (t_27 + (1 : Int))))))
                (
                (g_arena_Arena_within_0 N n T0 T1 a_0 off_2 n_3 p_10 t_25 t_26 (wi64 (t_27 + (1 : Int))))))
              (
              (g_arena_Arena_within_0 N n T0 T1 a_0 off_2 n_3 p_10 t_25 t_26 (wi64 (t_27 + (1 : Int))))))
            (
            none))
          (
          none))
        (
        none))
      (
      some (Sum.inl ((T0, (T1, ())), ())))

def F_arena_Arena_within (N : Nat) (T0 : List (List Int × (List (Option Nat) × Unit))) (T1 : List (Int × (Int × (Int × (List ((Int × Int)) × Unit))))) (a_0 : Option Nat) (id_1 : Int) (off_2 : Int) (n_3 : Int) : Option ((List (List Int × (List (Option Nat) × Unit)) × (List (Int × (Int × (Int × (List ((Int × Int)) × Unit)))) × Unit)) × ((Nat × (Nat × Nat)) × (Bool × Unit))) :=
  Option.bind (F_arena_Arena_find N T0 T1 a_0 id_1) fun y0 =>
  cond (@Option.isNone Nat ((y0).2).1)
    (
    cond (decide ((0 : Nat) < (List.length ((y0).1).1)))
      (
      some ((y0).1, (((0 : Nat), ((0 : Nat), (0 : Nat))), (false, ()))))
      (
      none))
    (
    cond (decide (n_3 < (0 : Int)))
      (
      cond (decide ((0 : Nat) < (List.length ((y0).1).1)))
        (
        some ((y0).1, (((0 : Nat), ((0 : Nat), (0 : Nat))), (false, ()))))
        (
        none))
      (
      cond (@Option.isSome Nat ((y0).2).1)
        (
        Option.bind (g_arena_Arena_within_0 N N ((y0).1).1 (((y0).1).2).1 a_0 off_2 n_3 ((y0).2).1 ((@Option.getD Nat ((y0).2).1 (0 : Nat)), ((0 : Nat), (List.length (((((List.getD (((y0).1).2).1 (@Option.getD Nat ((y0).2).1 (0 : Nat)) ((0 : Int), ((0 : Int), ((0 : Int), (([] : List (Int × Int)), ())))))).2).2).2).1))) (Nat.cast (List.length (((((List.getD (((y0).1).2).1 (@Option.getD Nat ((y0).2).1 (0 : Nat)) ((0 : Int), ((0 : Int), ((0 : Int), (([] : List (Int × Int)), ())))))).2).2).2).1) : Int) (0 : Int)) fun y1 =>
        Sum.elim (fun y2 =>
          cond (decide ((0 : Nat) < (List.length ((y2).1).1)))
            (
            some ((y2).1, (((0 : Nat), ((0 : Nat), (0 : Nat))), (false, ()))))
            (
            none))
          (fun y3 =>
          some y3) y1)
        (
        none)))

abbrev c_arena_Arena_within (N : Nat) : CallSpec E := ⟨33, ps_arena_Arena_within, rs_arena_Arena_within, fun x => F_arena_Arena_within N x.1.1 x.1.2.1 x.2.1 x.2.2.1 x.2.2.2.1 x.2.2.2.2.1⟩
abbrev l_arena_Arena_within_0 (N : Nat) : LoopSpec E [0, 1] := ⟨0, h_arena_Arena_within_0, e_arena_Arena_within_0, fun x => g_arena_Arena_within_0 N N x.1.1 x.1.2.1 x.2.1 x.2.2.1 x.2.2.2.1 x.2.2.2.2.1 x.2.2.2.2.2.1 x.2.2.2.2.2.2.1 x.2.2.2.2.2.2.2.1⟩

theorem cs_arena_Arena_within_ok (S : Ini) (N : Nat) : CallsOK Go.Proofs.Tryd.prog E S (cs_arena_Arena_within N) :=
  .cons (F_arena_Arena_find_ok S N) (.nil)
noncomputable abbrev b_arena_Arena_within_0 : Code := (loopsOf b_arena_Arena_within).getD 0 .skip
theorem g_arena_Arena_within_0_ok (S : Ini) (N : Nat) : ∀ n x y, (fun (x : StV E [0, 1] h_arena_Arena_within_0) => g_arena_Arena_within_0 N n x.1.1 x.1.2.1 x.2.1 x.2.2.1 x.2.2.2.1 x.2.2.2.2.1 x.2.2.2.2.2.1 x.2.2.2.2.2.2.1 x.2.2.2.2.2.2.2.1) x = some y → LoopCon Go.Proofs.Tryd.prog E S b_arena_Arena_within_0 (encSlots E [0, 1] h_arena_Arena_within_0 x) (encEx E [0, 1] e_arena_Arena_within_0 y).1 (encEx E [0, 1] e_arena_Arena_within_0 y).2 :=
  loop_specJ E_ok mixed (E_ok.ks 33) (cs_arena_Arena_within_ok S N) (all := loopsOf b_arena_Arena_within) (ls := []) (.nil) (js := []) (i := 0) (by kernel_rfl) (inner_of (by kernel_rfl)) (head := h_arena_Arena_within_0) (ex := e_arena_Arena_within_0) (fun n (x : StV E [0, 1] h_arena_Arena_within_0) => g_arena_Arena_within_0 N n x.1.1 x.1.2.1 x.2.1 x.2.2.1 x.2.2.2.1 x.2.2.2.2.1 x.2.2.2.2.2.1 x.2.2.2.2.2.2.1 x.2.2.2.2.2.2.2.1) (fun _ => rfl) (fun n x => by kernel_rfl)
theorem F_arena_Arena_within_ok (S : Ini) (N : Nat) : ∀ x y, (c_arena_Arena_within N).g x = some y → FCon Go.Proofs.Tryd.prog E S 33 ps_arena_Arena_within rs_arena_Arena_within x y := by
  intro x y h
  exact fun_specJ E_ok mixed (cs_arena_Arena_within_ok S N) (f := 33) (fi := ⟨b_arena_Arena_within, 77, Go.Proofs.Tryd.f33.results.toList⟩) (by kernel_rfl) (ls := [l_arena_Arena_within_0 N]) (.cons (by kernel_rfl) (g_arena_Arena_within_0_ok S N N) (.nil)) (js := []) (by kernel_rfl) (ps := ps_arena_Arena_within) (rs := rs_arena_Arena_within) (Eq.trans (b := F_arena_Arena_within N x.1.1 x.1.2.1 x.2.1 x.2.2.1 x.2.2.2.1 x.2.2.2.2.1) (by kernel_rfl) h)


end Go.Proofs.YtnbpgehpjhifgaaDoor.Lx

/-
  The functions of the seat's program, as plain functions.
-/
namespace Go.Proofs.YtnbpgehpjhifgaaDoor.Lx
open Go Go.Eng Go.Proofs
set_option maxRecDepth 100000

/-! (*lodge/arena.Arena).Write -/

abbrev ps_arena_Arena_Write : List Ty := [(.hd 0), (.int .i64), (.int .i64), (.sl (.int .u8))]
abbrev rs_arena_Arena_Write : List Slot := [.data .bool]
abbrev cs_arena_Arena_Write (N : Nat) : List (CallSpec E) := [c_arena_Arena_within N]
noncomputable abbrev b_arena_Arena_Write : Code := (Go.Proofs.Tryd.f17.body).getD .skip

def F_arena_Arena_Write (N : Nat) (T0 : List (List Int × (List (Option Nat) × Unit))) (T1 : List (Int × (Int × (Int × (List ((Int × Int)) × Unit))))) (a_0 : Option Nat) (id_1 : Int) (off_2 : Int) (b_3 : List Int) : Option ((List (List Int × (List (Option Nat) × Unit)) × (List (Int × (Int × (Int × (List ((Int × Int)) × Unit)))) × Unit)) × (Bool × Unit)) :=
  Option.bind (F_arena_Arena_within N T0 T1 a_0 id_1 off_2 (Nat.cast (List.length b_3) : Int)) fun y0 =>
  cond (decide ((((((y0).2).1).2).1 + ((((y0).2).1).2).2) ≤ (List.length ((List.getD ((y0).1).1 (((y0).2).1).1 (([] : List Int), (([] : List (Option Nat)), ())))).1)))
    (
    some (((List.set ((y0).1).1 (((y0).2).1).1 ((((List.take ((((y0).2).1).2).1 ((List.getD ((y0).1).1 (((y0).2).1).1 (([] : List Int), (([] : List (Option Nat)), ())))).1) ++ (List.take (@Min.min Nat instMinNat (List.length b_3) ((((y0).2).1).2).2) b_3)) ++ (List.drop (((((y0).2).1).2).1 + (@Min.min Nat instMinNat (List.length b_3) ((((y0).2).1).2).2)) ((List.getD ((y0).1).1 (((y0).2).1).1 (([] : List Int), (([] : List (Option Nat)), ())))).1)), ((List.getD ((y0).1).1 (((y0).2).1).1 (([] : List Int), (([] : List (Option Nat)), ())))).2)), ((y0).1).2), ((y0).2).2))
    (
    none)

abbrev c_arena_Arena_Write (N : Nat) : CallSpec E := ⟨17, ps_arena_Arena_Write, rs_arena_Arena_Write, fun x => F_arena_Arena_Write N x.1.1 x.1.2.1 x.2.1 x.2.2.1 x.2.2.2.1 x.2.2.2.2.1⟩

theorem cs_arena_Arena_Write_ok (S : Ini) (N : Nat) : CallsOK Go.Proofs.Tryd.prog E S (cs_arena_Arena_Write N) :=
  .cons (F_arena_Arena_within_ok S N) (.nil)
theorem F_arena_Arena_Write_ok (S : Ini) (N : Nat) : ∀ x y, (c_arena_Arena_Write N).g x = some y → FCon Go.Proofs.Tryd.prog E S 17 ps_arena_Arena_Write rs_arena_Arena_Write x y := by
  intro x y h
  exact fun_specJ E_ok mixed (cs_arena_Arena_Write_ok S N) (f := 17) (fi := ⟨b_arena_Arena_Write, 24, Go.Proofs.Tryd.f17.results.toList⟩) (by kernel_rfl) (ls := []) (.nil) (js := []) (by kernel_rfl) (ps := ps_arena_Arena_Write) (rs := rs_arena_Arena_Write) (Eq.trans (b := F_arena_Arena_Write N x.1.1 x.1.2.1 x.2.1 x.2.2.1 x.2.2.2.1 x.2.2.2.2.1) (by kernel_rfl) h)

/-! slices.Clone[[]byte,byte] -/

abbrev ps_slices_Clone_byte : List Ty := [(.sl (.int .u8))]
abbrev rs_slices_Clone_byte : List Slot := [.sl (.int .u8)]
abbrev cs_slices_Clone_byte (N : Nat) : List (CallSpec E) := []
noncomputable abbrev b_slices_Clone_byte : Code := (Go.Proofs.Tryd.f34.body).getD .skip

def F_slices_Clone_byte (N : Nat) (s_0 : List Int) : Option (Unit × (List Int × Unit)) :=
  cond (decide ((((0 : Nat) + (List.length s_0)) * (1 + (1 : Nat))) ≤ Go.Eng.most))
    (
    cond (decide (((0 : Nat) + (List.length s_0)) = (List.length (([] : List Int) ++ s_0))))
      (
      some ((), ((([] : List Int) ++ s_0), ())))
      (
      none))
    (
    none)

abbrev c_slices_Clone_byte (N : Nat) : CallSpec E := ⟨34, ps_slices_Clone_byte, rs_slices_Clone_byte, fun x => F_slices_Clone_byte N x.2.1⟩

theorem cs_slices_Clone_byte_ok (S : Ini) (N : Nat) : CallsOK Go.Proofs.Tryd.prog E S (cs_slices_Clone_byte N) :=
  .nil
theorem F_slices_Clone_byte_ok (S : Ini) (N : Nat) : ∀ x y, (c_slices_Clone_byte N).g x = some y → FCon Go.Proofs.Tryd.prog E S 34 ps_slices_Clone_byte rs_slices_Clone_byte x y := by
  intro x y h
  exact nil_spec E_ok mixed (f := 34) (fi := ⟨b_slices_Clone_byte, 8, Go.Proofs.Tryd.f34.results.toList⟩) (by kernel_rfl) (by kernel_rfl) (t := (.int .u8)) (T := x.1) (l := x.2.1) (rs := rs_slices_Clone_byte) (y := y) (Eq.trans (b := F_slices_Clone_byte N x.2.1) (by kernel_rfl) h) (fun hl => by
    have h' : F_slices_Clone_byte N x.2.1 = some y := h
    rw [hl] at h'
    exact (show funJKA E [] [] [] [] ⟨b_slices_Clone_byte, 8, Go.Proofs.Tryd.f34.results.toList⟩ [.v (.slice none 0 0)] (encTabs E.kinds [] x.1) rs_slices_Clone_byte = some (x.1, ([], ())) by kernel_rfl).trans ((show F_slices_Clone_byte N  [] = some (x.1, ([], ())) by kernel_rfl).symm.trans h'))

/-! (*lodge/arena.Arena).Read -/

abbrev ps_arena_Arena_Read : List Ty := [(.hd 0), (.int .i64), (.int .i64), (.int .i64)]
abbrev rs_arena_Arena_Read : List Slot := [.sl (.int .u8), .data .bool]
abbrev cs_arena_Arena_Read (N : Nat) : List (CallSpec E) := [c_arena_Arena_within N, c_slices_Clone_byte N]
noncomputable abbrev b_arena_Arena_Read : Code := (Go.Proofs.Tryd.f18.body).getD .skip

def F_arena_Arena_Read (N : Nat) (T0 : List (List Int × (List (Option Nat) × Unit))) (T1 : List (Int × (Int × (Int × (List ((Int × Int)) × Unit))))) (a_0 : Option Nat) (id_1 : Int) (off_2 : Int) (n_3 : Int) : Option ((List (List Int × (List (Option Nat) × Unit)) × (List (Int × (Int × (Int × (List ((Int × Int)) × Unit)))) × Unit)) × (List Int × (Bool × Unit))) :=
  Option.bind (F_arena_Arena_within N T0 T1 a_0 id_1 off_2 n_3) fun y0 =>
  cond (decide ((((((y0).2).1).2).1 + ((((y0).2).1).2).2) ≤ (List.length ((List.getD ((y0).1).1 (((y0).2).1).1 (([] : List Int), (([] : List (Option Nat)), ())))).1)))
    (
    Option.bind (F_slices_Clone_byte N (List.take ((((y0).2).1).2).2 (List.drop ((((y0).2).1).2).1 ((List.getD ((y0).1).1 (((y0).2).1).1 (([] : List Int), (([] : List (Option Nat)), ())))).1))) fun y1 =>
    cond (decide ((List.length ((y1).2).1) = (List.length ((y1).2).1)))
      (
      some ((y0).1, (((y1).2).1, ((y0).2).2)))
      (
      none))
    (
    none)

abbrev c_arena_Arena_Read (N : Nat) : CallSpec E := ⟨18, ps_arena_Arena_Read, rs_arena_Arena_Read, fun x => F_arena_Arena_Read N x.1.1 x.1.2.1 x.2.1 x.2.2.1 x.2.2.2.1 x.2.2.2.2.1⟩

theorem cs_arena_Arena_Read_ok (S : Ini) (N : Nat) : CallsOK Go.Proofs.Tryd.prog E S (cs_arena_Arena_Read N) :=
  .cons (F_arena_Arena_within_ok S N) (.cons (F_slices_Clone_byte_ok S N) (.nil))
theorem F_arena_Arena_Read_ok (S : Ini) (N : Nat) : ∀ x y, (c_arena_Arena_Read N).g x = some y → FCon Go.Proofs.Tryd.prog E S 18 ps_arena_Arena_Read rs_arena_Arena_Read x y := by
  intro x y h
  exact fun_specJ E_ok mixed (cs_arena_Arena_Read_ok S N) (f := 18) (fi := ⟨b_arena_Arena_Read, 23, Go.Proofs.Tryd.f18.results.toList⟩) (by kernel_rfl) (ls := []) (.nil) (js := []) (by kernel_rfl) (ps := ps_arena_Arena_Read) (rs := rs_arena_Arena_Read) (Eq.trans (b := F_arena_Arena_Read N x.1.1 x.1.2.1 x.2.1 x.2.2.1 x.2.2.2.1 x.2.2.2.2.1) (by kernel_rfl) h)

/-! (*lodge/arena.Arena).Raw -/

abbrev ps_arena_Arena_Raw : List Ty := [(.hd 0), (.int .i64), (.int .i64)]
abbrev rs_arena_Arena_Raw : List Slot := [.sl (.int .u8)]
abbrev cs_arena_Arena_Raw (N : Nat) : List (CallSpec E) := [c_slices_Clone_byte N]
noncomputable abbrev b_arena_Arena_Raw : Code := (Go.Proofs.Tryd.f19.body).getD .skip

def F_arena_Arena_Raw (N : Nat) (T0 : List (List Int × (List (Option Nat) × Unit))) (T1 : List (Int × (Int × (Int × (List ((Int × Int)) × Unit))))) (a_0 : Option Nat) (off_1 : Int) (n_2 : Int) : Option ((List (List Int × (List (Option Nat) × Unit)) × (List (Int × (Int × (Int × (List ((Int × Int)) × Unit)))) × Unit)) × (List Int × Unit)) :=
  cond (decide (off_1 < (0 : Int)))
    (
    cond (decide ((0 : Int) < n_2))
      (
      cond (decide ((wi64 (n_2 + off_1)) < (1 : Int)))
        (
        some ((T0, (T1, ())), (([] : List Int), ())))
        (
        cond (@Option.isSome Nat a_0)
          (
          cond (decide ((Nat.cast (List.length ((List.getD T0 (@Option.getD Nat a_0 (0 : Nat)) (([] : List Int), (([] : List (Option Nat)), ())))).1) : Int) ≤ (0 : Int)))
            (
            some ((T0, (T1, ())), (([] : List Int), ())))
            (
            cond (@Option.isSome Nat a_0)
              (
              cond (@Option.isSome Nat a_0)
                (
                cond (decide ((0 : Int) ≤ (wi64 ((0 : Int) + (Go.Eng.imin (wi64 (n_2 + off_1)) (wi64 ((Nat.cast (List.length ((List.getD T0 (@Option.getD Nat a_0 (0 : Nat)) (([] : List Int), (([] : List (Option Nat)), ())))).1) : Int) - (0 : Int))))))))
                  (
                  cond (decide ((Int.toNat (wi64 ((0 : Int) + (Go.Eng.imin (wi64 (n_2 + off_1)) (wi64 ((Nat.cast (List.length ((List.getD T0 (@Option.getD Nat a_0 (0 : Nat)) (([] : List Int), (([] : List (Option Nat)), ())))).1) : Int) - (0 : Int))))))) ≤ (List.length ((List.getD T0 (@Option.getD Nat a_0 (0 : Nat)) (([] : List Int), (([] : List (Option Nat)), ())))).1)))
                    (
                    cond (decide ((((0 : Nat) + 0) + ((Int.toNat (wi64 ((0 : Int) + (Go.Eng.imin (wi64 (n_2 + off_1)) (wi64 ((Nat.cast (List.length ((List.getD T0 (@Option.getD Nat a_0 (0 : Nat)) (([] : List Int), (([] : List (Option Nat)), ())))).1) : Int) - (0 : Int))))))) - 0)) ≤ (List.length ((List.getD T0 (@Option.getD Nat a_0 (0 : Nat)) (([] : List Int), (([] : List (Option Nat)), ())))).1)))
                      (
                      Option.bind (F_slices_Clone_byte N (List.take ((Int.toNat (wi64 ((0 : Int) + (Go.Eng.imin (wi64 (n_2 + off_1)) (wi64 ((Nat.cast (List.length ((List.getD T0 (@Option.getD Nat a_0 (0 : Nat)) (([] : List Int), (([] : List (Option Nat)), ())))).1) : Int) - (0 : Int))))))) - 0) (List.drop ((0 : Nat) + 0) ((List.getD T0 (@Option.getD Nat a_0 (0 : Nat)) (([] : List Int), (([] : List (Option Nat)), ())))).1))) fun y0 =>
                      cond (decide ((List.length ((y0).2).1) = (List.length ((y0).2).1)))
                        (
                        some ((T0, (T1, ())), (y0).2))
                        (
                        none))
                      (
                      none))
                    (
                    none))
                  (
                  none))
                (
                none))
              (
              none)))
          (
          none)))
      (
      cond (decide (off_1 < (0 : Int)))
        (
        some ((T0, (T1, ())), (([] : List Int), ())))
        (
        cond (decide (n_2 < (1 : Int)))
          (
          some ((T0, (T1, ())), (([] : List Int), ())))
          (
          cond (@Option.isSome Nat a_0)
            (
            cond (decide ((Nat.cast (List.length ((List.getD T0 (@Option.getD Nat a_0 (0 : Nat)) (([] : List Int), (([] : List (Option Nat)), ())))).1) : Int) ≤ off_1))
              (
              some ((T0, (T1, ())), (([] : List Int), ())))
              (
              cond (@Option.isSome Nat a_0)
                (
                cond (@Option.isSome Nat a_0)
                  (
                  cond (decide ((0 : Int) ≤ off_1))
                    (
                    cond (decide ((0 : Int) ≤ (wi64 (off_1 + (Go.Eng.imin n_2 (wi64 ((Nat.cast (List.length ((List.getD T0 (@Option.getD Nat a_0 (0 : Nat)) (([] : List Int), (([] : List (Option Nat)), ())))).1) : Int) - off_1)))))))
                      (
                      cond (decide ((Int.toNat off_1) ≤ (Int.toNat (wi64 (off_1 + (Go.Eng.imin n_2 (wi64 ((Nat.cast (List.length ((List.getD T0 (@Option.getD Nat a_0 (0 : Nat)) (([] : List Int), (([] : List (Option Nat)), ())))).1) : Int) - off_1))))))))
                        (
                        cond (decide ((Int.toNat (wi64 (off_1 + (Go.Eng.imin n_2 (wi64 ((Nat.cast (List.length ((List.getD T0 (@Option.getD Nat a_0 (0 : Nat)) (([] : List Int), (([] : List (Option Nat)), ())))).1) : Int) - off_1)))))) ≤ (List.length ((List.getD T0 (@Option.getD Nat a_0 (0 : Nat)) (([] : List Int), (([] : List (Option Nat)), ())))).1)))
                          (
                          cond (decide ((((0 : Nat) + (Int.toNat off_1)) + ((Int.toNat (wi64 (off_1 + (Go.Eng.imin n_2 (wi64 ((Nat.cast (List.length ((List.getD T0 (@Option.getD Nat a_0 (0 : Nat)) (([] : List Int), (([] : List (Option Nat)), ())))).1) : Int) - off_1)))))) - (Int.toNat off_1))) ≤ (List.length ((List.getD T0 (@Option.getD Nat a_0 (0 : Nat)) (([] : List Int), (([] : List (Option Nat)), ())))).1)))
                            (
                            Option.bind (F_slices_Clone_byte N (List.take ((Int.toNat (wi64 (off_1 + (Go.Eng.imin n_2 (wi64 ((Nat.cast (List.length ((List.getD T0 (@Option.getD Nat a_0 (0 : Nat)) (([] : List Int), (([] : List (Option Nat)), ())))).1) : Int) - off_1)))))) - (Int.toNat off_1)) (List.drop ((0 : Nat) + (Int.toNat off_1)) ((List.getD T0 (@Option.getD Nat a_0 (0 : Nat)) (([] : List Int), (([] : List (Option Nat)), ())))).1))) fun y1 =>
                            cond (decide ((List.length ((y1).2).1) = (List.length ((y1).2).1)))
                              (
                              some ((T0, (T1, ())), (y1).2))
                              (
                              none))
                            (
                            none))
                          (
                          none))
                        (
                        none))
                      (
                      none))
                    (
                    none))
                  (
                  none))
                (
                none)))
            (
            none)))))
    (
    cond (decide (off_1 < (0 : Int)))
      (
      some ((T0, (T1, ())), (([] : List Int), ())))
      (
      cond (decide (n_2 < (1 : Int)))
        (
        some ((T0, (T1, ())), (([] : List Int), ())))
        (
        cond (@Option.isSome Nat a_0)
          (
          cond (decide ((Nat.cast (List.length ((List.getD T0 (@Option.getD Nat a_0 (0 : Nat)) (([] : List Int), (([] : List (Option Nat)), ())))).1) : Int) ≤ off_1))
            (
            some ((T0, (T1, ())), (([] : List Int), ())))
            (
            cond (@Option.isSome Nat a_0)
              (
              cond (@Option.isSome Nat a_0)
                (
                cond (decide ((0 : Int) ≤ off_1))
                  (
                  cond (decide ((0 : Int) ≤ (wi64 (off_1 + (Go.Eng.imin n_2 (wi64 ((Nat.cast (List.length ((List.getD T0 (@Option.getD Nat a_0 (0 : Nat)) (([] : List Int), (([] : List (Option Nat)), ())))).1) : Int) - off_1)))))))
                    (
                    cond (decide ((Int.toNat off_1) ≤ (Int.toNat (wi64 (off_1 + (Go.Eng.imin n_2 (wi64 ((Nat.cast (List.length ((List.getD T0 (@Option.getD Nat a_0 (0 : Nat)) (([] : List Int), (([] : List (Option Nat)), ())))).1) : Int) - off_1))))))))
                      (
                      cond (decide ((Int.toNat (wi64 (off_1 + (Go.Eng.imin n_2 (wi64 ((Nat.cast (List.length ((List.getD T0 (@Option.getD Nat a_0 (0 : Nat)) (([] : List Int), (([] : List (Option Nat)), ())))).1) : Int) - off_1)))))) ≤ (List.length ((List.getD T0 (@Option.getD Nat a_0 (0 : Nat)) (([] : List Int), (([] : List (Option Nat)), ())))).1)))
                        (
                        cond (decide ((((0 : Nat) + (Int.toNat off_1)) + ((Int.toNat (wi64 (off_1 + (Go.Eng.imin n_2 (wi64 ((Nat.cast (List.length ((List.getD T0 (@Option.getD Nat a_0 (0 : Nat)) (([] : List Int), (([] : List (Option Nat)), ())))).1) : Int) - off_1)))))) - (Int.toNat off_1))) ≤ (List.length ((List.getD T0 (@Option.getD Nat a_0 (0 : Nat)) (([] : List Int), (([] : List (Option Nat)), ())))).1)))
                          (
                          Option.bind (F_slices_Clone_byte N (List.take ((Int.toNat (wi64 (off_1 + (Go.Eng.imin n_2 (wi64 ((Nat.cast (List.length ((List.getD T0 (@Option.getD Nat a_0 (0 : Nat)) (([] : List Int), (([] : List (Option Nat)), ())))).1) : Int) - off_1)))))) - (Int.toNat off_1)) (List.drop ((0 : Nat) + (Int.toNat off_1)) ((List.getD T0 (@Option.getD Nat a_0 (0 : Nat)) (([] : List Int), (([] : List (Option Nat)), ())))).1))) fun y2 =>
                          cond (decide ((List.length ((y2).2).1) = (List.length ((y2).2).1)))
                            (
                            some ((T0, (T1, ())), (y2).2))
                            (
                            none))
                          (
                          none))
                        (
                        none))
                      (
                      none))
                    (
                    none))
                  (
                  none))
                (
                none))
              (
              none)))
          (
          none))))

abbrev c_arena_Arena_Raw (N : Nat) : CallSpec E := ⟨19, ps_arena_Arena_Raw, rs_arena_Arena_Raw, fun x => F_arena_Arena_Raw N x.1.1 x.1.2.1 x.2.1 x.2.2.1 x.2.2.2.1⟩

theorem cs_arena_Arena_Raw_ok (S : Ini) (N : Nat) : CallsOK Go.Proofs.Tryd.prog E S (cs_arena_Arena_Raw N) :=
  .cons (F_slices_Clone_byte_ok S N) (.nil)
theorem F_arena_Arena_Raw_ok (S : Ini) (N : Nat) : ∀ x y, (c_arena_Arena_Raw N).g x = some y → FCon Go.Proofs.Tryd.prog E S 19 ps_arena_Arena_Raw rs_arena_Arena_Raw x y := by
  intro x y h
  exact fun_specJ E_ok mixed (cs_arena_Arena_Raw_ok S N) (f := 19) (fi := ⟨b_arena_Arena_Raw, 49, Go.Proofs.Tryd.f19.results.toList⟩) (by kernel_rfl) (ls := []) (.nil) (js := []) (by kernel_rfl) (ps := ps_arena_Arena_Raw) (rs := rs_arena_Arena_Raw) (Eq.trans (b := F_arena_Arena_Raw N x.1.1 x.1.2.1 x.2.1 x.2.2.1 x.2.2.2.1) (by kernel_rfl) h)


end Go.Proofs.YtnbpgehpjhifgaaDoor.Lx
