/-
  Texts of the proof, one behind the other.
-/
import Derived.Test.YtpekhdbkekiblaaGreatDoorLxPg

/-
  The functions of the seat's program, as plain functions.
-/
namespace Go.Proofs.YtpekhdbkekiblaaGreatDoor.Lx
open Go Go.Eng Go.Proofs
set_option maxRecDepth 100000

/-! lodge/caps.New -/

abbrev ps_caps_New : List Ty := []
abbrev rs_caps_New : List Slot := [.data (.hd 5)]
abbrev cs_caps_New (N : Nat) : List (CallSpec E) := []
noncomputable abbrev b_caps_New : Code := ((Go.Proofs.Tryz.f33.body).getD .skip)

def F_caps_New (N : Nat) (T2 : List (Nat × (List ((Int × Int) × ((Bool × (((List Int × Bool) × List Int) × ((Int × Int) × Int))) × Nat)) × Unit))) (T3 : List (Nat × (List ((Int × Int) × (Int × Nat)) × Unit))) (T4 : List (Nat × (List (((Int × Int) × Int) × (Int × Nat)) × Unit))) (T5 : List (Option Nat × (Option Nat × (Option Nat × Unit)))) : Option ((List (Nat × (List ((Int × Int) × ((Bool × (((List Int × Bool) × List Int) × ((Int × Int) × Int))) × Nat)) × Unit)) × (List (Nat × (List ((Int × Int) × (Int × Nat)) × Unit)) × (List (Nat × (List (((Int × Int) × Int) × (Int × Nat)) × Unit)) × (List (Option Nat × (Option Nat × (Option Nat × Unit))) × Unit)))) × (Option Nat × Unit)) :=
  some (((T2 ++ (((0 : Nat), (([] : List ((Int × Int) × ((Bool × ((((List Int) × Bool) × (List Int)) × ((Int × Int) × Int))) × Nat))), ())) :: ([] : List (Nat × ((List ((Int × Int) × ((Bool × ((((List Int) × Bool) × (List Int)) × ((Int × Int) × Int))) × Nat))) × PUnit))))), ((T3 ++ (((0 : Nat), (([] : List ((Int × Int) × (Int × Nat))), ())) :: ([] : List (Nat × ((List ((Int × Int) × (Int × Nat))) × PUnit))))), ((T4 ++ (((0 : Nat), (([] : List (((Int × Int) × Int) × (Int × Nat))), ())) :: ([] : List (Nat × ((List (((Int × Int) × Int) × (Int × Nat))) × PUnit))))), ((T5 ++ (((@Option.some Nat (List.length T2)), ((@Option.some Nat (List.length T3)), ((@Option.some Nat (List.length T4)), ()))) :: ([] : List ((Option Nat) × ((Option Nat) × ((Option Nat) × PUnit)))))), ())))), ((@Option.some Nat (List.length T5)), ()))

abbrev c_caps_New (N : Nat) : CallSpec E := ⟨33, ps_caps_New, rs_caps_New, fun x => F_caps_New N x.1.1 x.1.2.1 x.1.2.2.1 x.1.2.2.2.1⟩

theorem cs_caps_New_ok (S : Ini) (N : Nat) : CallsOK Go.Proofs.Tryz.prog E S (cs_caps_New N) :=
  .nil
theorem F_caps_New_ok (S : Ini) (N : Nat) : ∀ x y, (c_caps_New N).g x = some y → FCon Go.Proofs.Tryz.prog E S 33 ps_caps_New rs_caps_New x y := by
  intro x y h
  exact fun_specJ E_ok mixed (cs_caps_New_ok S N) (f := 33) (fi := ⟨b_caps_New, 6, Go.Proofs.Tryz.f33.results.toList⟩) (by kernel_rfl) (ls := []) (.nil) (js := []) (by kernel_rfl) (ps := ps_caps_New) (rs := rs_caps_New) (Eq.trans (b := F_caps_New N x.1.1 x.1.2.1 x.1.2.2.1 x.1.2.2.2.1) (by kernel_rfl) h)

/-! lodge/arena.New -/

abbrev ps_arena_New : List Ty := [(.int .i64)]
abbrev rs_arena_New : List Slot := [.data (.hd 0), .data .err]
abbrev cs_arena_New (N : Nat) : List (CallSpec E) := []
noncomputable abbrev b_arena_New : Code := ((Go.Proofs.Tryz.f34.body).getD .skip)

def F_arena_New (N : Nat) (T0 : List (List Int × (List (Option Nat) × Unit))) (T1 : List (Int × (Int × (Int × (List ((Int × Int)) × Unit))))) (size_0 : Int) : Option ((List (List Int × (List (Option Nat) × Unit)) × (List (Int × (Int × (Int × (List ((Int × Int)) × Unit)))) × Unit)) × (Option Nat × (Er × Unit))) :=
  cond (decide (size_0 < (1 : Int)))
    (
    some ((T0, (T1, ())), ((@Option.none Nat), ((Go.Eng.Er.s ErrRange), ()))))
    (
    cond (decide ((1048576 : Int) < size_0))
      (
      some ((T0, (T1, ())), ((@Option.none Nat), ((Go.Eng.Er.s ErrRange), ()))))
      (
      cond (decide ((0 : Int) ≤ size_0))
        (
        cond (decide (size_0 ≤ size_0))
          (
          cond (decide ((size_0 * ((Nat.cast 1 : Int) + (1 : Int))) ≤ (Nat.cast Go.Eng.most : Int)))
            (
            cond (decide (((0 : Nat) + (Int.toNat size_0)) ≤ (List.length (List.replicate (Int.toNat size_0) (0 : Int)))))
              (
              some (((T0 ++ (((List.take (Int.toNat size_0) (List.replicate (Int.toNat size_0) (0 : Int))), (([] : List (Option Nat)), ())) :: ([] : List ((List Int) × ((List (Option Nat)) × PUnit))))), (T1, ())), ((@Option.some Nat (List.length T0)), (Go.Eng.Er.nil, ()))))
              (
              none))
            (
            none))
          (
          none))
        (
        none)))

abbrev c_arena_New (N : Nat) : CallSpec E := ⟨34, ps_arena_New, rs_arena_New, fun x => F_arena_New N x.1.1 x.1.2.1 x.2.1⟩

theorem cs_arena_New_ok (S : Ini) (N : Nat) : CallsOK Go.Proofs.Tryz.prog E S (cs_arena_New N) :=
  .nil
theorem F_arena_New_ok (S : Ini) (N : Nat) : ∀ x y, (c_arena_New N).g x = some y → FCon Go.Proofs.Tryz.prog E S 34 ps_arena_New rs_arena_New x y := by
  intro x y h
  exact fun_specJ E_ok mixed (cs_arena_New_ok S N) (f := 34) (fi := ⟨b_arena_New, 15, Go.Proofs.Tryz.f34.results.toList⟩) (by kernel_rfl) (ls := []) (.nil) (js := []) (by kernel_rfl) (ps := ps_arena_New) (rs := rs_arena_New) (Eq.trans (b := F_arena_New N x.1.1 x.1.2.1 x.2.1) (by kernel_rfl) h)

/-! (*lodge/arena.Arena).find -/

abbrev ps_arena_Arena_find : List Ty := [(.hd 0), (.int .i64)]
abbrev rs_arena_Arena_find : List Slot := [.data (.hd 1)]
abbrev cs_arena_Arena_find (N : Nat) : List (CallSpec E) := []
noncomputable abbrev b_arena_Arena_find : Code := ((Go.Proofs.Tryz.f66.body).getD .skip)

abbrev h_arena_Arena_find_0 : List Slot := [.dead, .data (.int .i64), .dead, .dead, .dead, .dead, .dead, .dead, .dead, .dead, .bor (.hd 1) 0 2, .data (.int .i64), .data (.int .i64), .dead, .dead, .dead, .dead, .dead, .dead, .dead, .dead, .dead, .dead, .dead, .dead]
abbrev e_arena_Arena_find_0 : List (AX × List Slot) := [(AX.exit 0, [.dead, .dead, .dead, .dead, .dead, .dead, .dead, .dead, .dead, .dead, .dead, .dead, .dead, .dead, .dead, .dead, .dead, .dead, .dead, .dead, .dead, .dead, .dead, .dead, .dead]), (AX.ret, [.dead, .dead, .dead, .dead, .data (.hd 1), .dead, .dead, .dead, .dead, .dead, .dead, .dead, .dead, .dead, .dead, .dead, .dead, .dead, .dead, .dead, .dead, .dead, .dead, .dead, .dead])]
def g_arena_Arena_find_0 (N : Nat) : Nat → List (List Int × (List (Option Nat) × Unit)) → List (Int × (Int × (Int × (List ((Int × Int)) × Unit)))) → Int → (Nat × (Nat × Nat)) → Int → Int → Option (Sum ((List (List Int × (List (Option Nat) × Unit)) × (List (Int × (Int × (Int × (List ((Int × Int)) × Unit)))) × Unit)) × Unit) ((List (List Int × (List (Option Nat) × Unit)) × (List (Int × (Int × (Int × (List ((Int × Int)) × Unit)))) × Unit)) × (Option Nat × Unit)))
  | 0, _, _, _, _, _, _ => none
  | n + 1, T0, T1, id_1, t_10, t_11, t_12 =>
    cond (decide (t_12 < t_11))
      (
      cond (decide ((0 : Int) ≤ t_12))
        (
        cond (decide ((Int.toNat t_12) < ((t_10).2).2))
          (
          cond (decide ((((t_10).2).1 + (Int.toNat t_12)) < (List.length (((List.getD T0 (t_10).1 (([] : List Int), (([] : List (Option Nat)), ())))).2).1)))
            (
            cond (@Option.isSome Nat (List.getD (((List.getD T0 (t_10).1 (([] : List Int), (([] : List (Option Nat)), ())))).2).1 (((t_10).2).1 + (Int.toNat t_12)) (@Option.none Nat)))
              (
              cond (decide (((List.getD T1 (@Option.getD Nat (List.getD (((List.getD T0 (t_10).1 (([] : List Int), (([] : List (Option Nat)), ())))).2).1 (((t_10).2).1 + (Int.toNat t_12)) (@Option.none Nat)) (0 : Nat)) ((0 : Int), ((0 : Int), ((0 : Int), (([] : List (Int × Int)), ())))))).1 = id_1))
                (
                some (Sum.inr ((T0, (T1, ())), ((List.getD (((List.getD T0 (t_10).1 (([] : List Int), (([] : List (Option Nat)), ())))).2).1 (((t_10).2).1 + (Int.toNat t_12)) (@Option.none Nat)), ()))))
                (
                (g_arena_Arena_find_0 N n T0 T1 id_1 t_10 t_11 (wi64 (t_12 + (1 : Int))))))
              (
              none))
            (
            none))
          (
          none))
        (
        none))
      (
      some (Sum.inl ((T0, (T1, ())), ())))

def F_arena_Arena_find (N : Nat) (T0 : List (List Int × (List (Option Nat) × Unit))) (T1 : List (Int × (Int × (Int × (List ((Int × Int)) × Unit))))) (a_0 : Option Nat) (id_1 : Int) : Option ((List (List Int × (List (Option Nat) × Unit)) × (List (Int × (Int × (Int × (List ((Int × Int)) × Unit)))) × Unit)) × (Option Nat × Unit)) :=
  cond (@Option.isSome Nat a_0)
    (
    Option.bind (g_arena_Arena_find_0 N N T0 T1 id_1 ((@Option.getD Nat a_0 (0 : Nat)), ((0 : Nat), (List.length (((List.getD T0 (@Option.getD Nat a_0 (0 : Nat)) (([] : List Int), (([] : List (Option Nat)), ())))).2).1))) (Nat.cast (List.length (((List.getD T0 (@Option.getD Nat a_0 (0 : Nat)) (([] : List Int), (([] : List (Option Nat)), ())))).2).1) : Int) (0 : Int)) fun y0 =>
    Sum.elim (fun y1 =>
      some ((y1).1, ((@Option.none Nat), ())))
      (fun y2 =>
      some y2) y0)
    (
    none)

abbrev c_arena_Arena_find (N : Nat) : CallSpec E := ⟨66, ps_arena_Arena_find, rs_arena_Arena_find, fun x => F_arena_Arena_find N x.1.1 x.1.2.1 x.2.1 x.2.2.1⟩
abbrev l_arena_Arena_find_0 (N : Nat) : LoopSpec E [0, 1] := ⟨0, h_arena_Arena_find_0, e_arena_Arena_find_0, fun x => g_arena_Arena_find_0 N N x.1.1 x.1.2.1 x.2.1 x.2.2.1 x.2.2.2.1 x.2.2.2.2.1⟩

theorem cs_arena_Arena_find_ok (S : Ini) (N : Nat) : CallsOK Go.Proofs.Tryz.prog E S (cs_arena_Arena_find N) :=
  .nil
noncomputable abbrev b_arena_Arena_find_0 : Code := (loopsOf b_arena_Arena_find).getD 0 .skip
theorem g_arena_Arena_find_0_ok (S : Ini) (N : Nat) : ∀ n x y, (fun (x : StV E [0, 1] h_arena_Arena_find_0) => g_arena_Arena_find_0 N n x.1.1 x.1.2.1 x.2.1 x.2.2.1 x.2.2.2.1 x.2.2.2.2.1) x = some y → LoopCon Go.Proofs.Tryz.prog E S b_arena_Arena_find_0 (encSlots E [0, 1] h_arena_Arena_find_0 x) (encEx E [0, 1] e_arena_Arena_find_0 y).1 (encEx E [0, 1] e_arena_Arena_find_0 y).2 :=
  loop_specJ E_ok mixed (E_ok.ks 66) (cs_arena_Arena_find_ok S N) (all := loopsOf b_arena_Arena_find) (ls := []) (.nil) (js := []) (i := 0) (by kernel_rfl) (inner_of (by kernel_rfl)) (head := h_arena_Arena_find_0) (ex := e_arena_Arena_find_0) (fun n (x : StV E [0, 1] h_arena_Arena_find_0) => g_arena_Arena_find_0 N n x.1.1 x.1.2.1 x.2.1 x.2.2.1 x.2.2.2.1 x.2.2.2.2.1) (fun _ => rfl) (fun n x => by kernel_rfl)
theorem F_arena_Arena_find_ok (S : Ini) (N : Nat) : ∀ x y, (c_arena_Arena_find N).g x = some y → FCon Go.Proofs.Tryz.prog E S 66 ps_arena_Arena_find rs_arena_Arena_find x y := by
  intro x y h
  exact fun_specJ E_ok mixed (cs_arena_Arena_find_ok S N) (f := 66) (fi := ⟨b_arena_Arena_find, 25, Go.Proofs.Tryz.f66.results.toList⟩) (by kernel_rfl) (ls := [l_arena_Arena_find_0 N]) (.cons (by kernel_rfl) (g_arena_Arena_find_0_ok S N N) (.nil)) (js := []) (by kernel_rfl) (ps := ps_arena_Arena_find) (rs := rs_arena_Arena_find) (Eq.trans (b := F_arena_Arena_find N x.1.1 x.1.2.1 x.2.1 x.2.2.1) (by kernel_rfl) h)

/-! lodge/arena.gap -/

abbrev ps_arena_gap : List Ty := [(.sl (.st (.pair (.int .i64) (.int .i64)))), (.int .i64), (.int .i64)]
abbrev rs_arena_gap : List Slot := [.data (.int .i64), .data (.int .i64), .data .bool]
abbrev cs_arena_gap (N : Nat) : List (CallSpec E) := []
noncomputable abbrev b_arena_gap : Code := ((Go.Proofs.Tryz.f67.body).getD .skip)

abbrev h_arena_gap_0 : List Slot := [.data (.sl (.st (.pair (.int .i64) (.int .i64)))), .data (.int .i64), .data (.int .i64), .dead, .dead, .dead, .dead, .dead, .dead, .data (.int .i64), .dead, .dead, .data (.sl (.st (.pair (.int .i64) (.int .i64)))), .data (.int .i64), .data (.int .i64), .dead, .dead, .dead, .dead, .dead, .dead, .dead, .dead, .dead, .dead, .dead, .dead, .dead, .dead, .dead, .dead, .dead, .dead, .dead, .dead, .dead, .dead, .dead, .dead, .dead, .dead]
abbrev e_arena_gap_0 : List (AX × List Slot) := [(AX.exit 0, [.data (.sl (.st (.pair (.int .i64) (.int .i64)))), .data (.int .i64), .data (.int .i64), .dead, .dead, .dead, .dead, .dead, .dead, .data (.int .i64), .dead, .dead, .dead, .dead, .dead, .dead, .dead, .dead, .dead, .dead, .dead, .dead, .dead, .dead, .dead, .dead, .dead, .dead, .dead, .dead, .dead, .dead, .dead, .dead, .dead, .dead, .dead, .dead, .dead, .dead, .dead]), (AX.ret, [.dead, .dead, .dead, .dead, .dead, .dead, .data (.int .i64), .data (.int .i64), .data .bool, .dead, .dead, .dead, .dead, .dead, .dead, .dead, .dead, .dead, .dead, .dead, .dead, .dead, .dead, .dead, .dead, .dead, .dead, .dead, .dead, .dead, .dead, .dead, .dead, .dead, .dead, .dead, .dead, .dead, .dead, .dead, .dead])]
def g_arena_gap_0 (N : Nat) : Nat → List ((Int × Int)) → Int → Int → Int → List ((Int × Int)) → Int → Int → Option (Sum (Unit × (List ((Int × Int)) × (Int × (Int × (Int × Unit))))) (Unit × (Int × (Int × (Bool × Unit)))))
  | 0, _, _, _, _, _, _, _ => none
  | n + 1, l_0, size_1, n_2, at_9, t_12, t_13, t_14 =>
    cond (decide (t_14 < t_13))
      (
      cond (decide ((0 : Int) ≤ t_14))
        (
        cond (decide ((Int.toNat t_14) < (List.length t_12)))
          (
          cond (decide (n_2 ≤ (wi64 (((List.getD t_12 (Int.toNat t_14) ((0 : Int), (0 : Int)))).1 - at_9))))
            (
            some (Sum.inr ((), (at_9, (t_14, (true, ()))))))
            (
            (g_arena_gap_0 N n l_0 size_1 n_2 (wi64 (((List.getD t_12 (Int.toNat t_14) ((0 : Int), (0 : Int)))).1 + ((List.getD t_12 (Int.toNat t_14) ((0 : Int), (0 : Int)))).2)) t_12 t_13 (wi64 (t_14 + (1 : Int))))))
          (
          none))
        (
        none))
      (
      some (Sum.inl ((), (l_0, (size_1, (n_2, (at_9, ())))))))

def F_arena_gap (N : Nat) (l_0 : List ((Int × Int))) (size_1 : Int) (n_2 : Int) : Option (Unit × (Int × (Int × (Bool × Unit)))) :=
  Option.bind (g_arena_gap_0 N N l_0 size_1 n_2 (0 : Int) l_0 (Nat.cast (List.length l_0) : Int) (0 : Int)) fun y0 =>
  Sum.elim (fun y1 =>
    some ((), ((((((y1).2).2).2).2).1, ((Nat.cast (List.length ((y1).2).1) : Int), ((decide (((((y1).2).2).2).1 ≤ (wi64 ((((y1).2).2).1 - (((((y1).2).2).2).2).1)))), ())))))
    (fun y2 =>
    some ((), (y2).2)) y0

abbrev c_arena_gap (N : Nat) : CallSpec E := ⟨67, ps_arena_gap, rs_arena_gap, fun x => F_arena_gap N x.2.1 x.2.2.1 x.2.2.2.1⟩
abbrev l_arena_gap_0 (N : Nat) : LoopSpec E [] := ⟨0, h_arena_gap_0, e_arena_gap_0, fun x => g_arena_gap_0 N N x.2.1 x.2.2.1 x.2.2.2.1 x.2.2.2.2.1 x.2.2.2.2.2.1 x.2.2.2.2.2.2.1 x.2.2.2.2.2.2.2.1⟩

theorem cs_arena_gap_ok (S : Ini) (N : Nat) : CallsOK Go.Proofs.Tryz.prog E S (cs_arena_gap N) :=
  .nil
noncomputable abbrev b_arena_gap_0 : Code := (loopsOf b_arena_gap).getD 0 .skip
theorem g_arena_gap_0_ok (S : Ini) (N : Nat) : ∀ n x y, (fun (x : StV E [] h_arena_gap_0) => g_arena_gap_0 N n x.2.1 x.2.2.1 x.2.2.2.1 x.2.2.2.2.1 x.2.2.2.2.2.1 x.2.2.2.2.2.2.1 x.2.2.2.2.2.2.2.1) x = some y → LoopCon Go.Proofs.Tryz.prog E S b_arena_gap_0 (encSlots E [] h_arena_gap_0 x) (encEx E [] e_arena_gap_0 y).1 (encEx E [] e_arena_gap_0 y).2 :=
  loop_specJ E_ok mixed (E_ok.ks 67) (cs_arena_gap_ok S N) (all := loopsOf b_arena_gap) (ls := []) (.nil) (js := []) (i := 0) (by kernel_rfl) (inner_of (by kernel_rfl)) (head := h_arena_gap_0) (ex := e_arena_gap_0) (fun n (x : StV E [] h_arena_gap_0) => g_arena_gap_0 N n x.2.1 x.2.2.1 x.2.2.2.1 x.2.2.2.2.1 x.2.2.2.2.2.1 x.2.2.2.2.2.2.1 x.2.2.2.2.2.2.2.1) (fun _ => rfl) (fun n x => by kernel_rfl)
theorem F_arena_gap_ok (S : Ini) (N : Nat) : ∀ x y, (c_arena_gap N).g x = some y → FCon Go.Proofs.Tryz.prog E S 67 ps_arena_gap rs_arena_gap x y := by
  intro x y h
  exact fun_specJ E_ok mixed (cs_arena_gap_ok S N) (f := 67) (fi := ⟨b_arena_gap, 41, Go.Proofs.Tryz.f67.results.toList⟩) (by kernel_rfl) (ls := [l_arena_gap_0 N]) (.cons (by kernel_rfl) (g_arena_gap_0_ok S N N) (.nil)) (js := []) (by kernel_rfl) (ps := ps_arena_gap) (rs := rs_arena_gap) (Eq.trans (b := F_arena_gap N x.2.1 x.2.2.1 x.2.2.2.1) (by kernel_rfl) h)

/-! (*lodge/arena.Arena).Add -/

abbrev ps_arena_Arena_Add : List Ty := [(.hd 0), (.int .i64), (.int .i64)]
abbrev rs_arena_Arena_Add : List Slot := [.data (.st (.pair (.int .i64) (.pair (.int .i64) (.int .i64)))), .data .err]
abbrev cs_arena_Arena_Add (N : Nat) : List (CallSpec E) := [c_arena_Arena_find N, c_arena_gap N]
noncomputable abbrev b_arena_Arena_Add : Code := ((Go.Proofs.Tryz.f35.body).getD .skip)

abbrev h_arena_Arena_Add_0 : List Slot := [.data (.hd 0), .data (.int .i64), .data (.int .i64), .dead, .dead, .dead, .box [.d (.st (.pair (.int .i64) (.pair (.int .i64) (.int .i64))))], .dead, .sl (.st (.pair (.int .i64) (.int .i64))), .dead, .dead, .dead, .dead, .dead, .dead, .dead, .dead, .dead, .dead, .dead, .dead, .dead, .dead, .dead, .dead, .dead, .dead, .dead, .bor (.hd 1) 0 2, .data (.int .i64), .data (.int .i64), .dead, .dead, .dead, .dead, .dead, .dead, .dead, .dead, .dead, .dead, .dead, .dead, .dead, .dead, .dead, .dead, .dead, .dead, .dead, .dead, .dead, .dead, .dead, .dead, .dead, .dead, .dead, .dead, .dead, .dead, .dead, .dead, .dead, .dead, .dead, .dead, .dead, .dead, .dead, .dead, .dead, .dead, .dead, .dead, .dead, .dead, .dead, .dead, .dead, .dead, .dead, .dead]
abbrev e_arena_Arena_Add_0 : List (AX × List Slot) := [(AX.exit 0, [.data (.hd 0), .data (.int .i64), .data (.int .i64), .dead, .dead, .dead, .box [.d (.st (.pair (.int .i64) (.pair (.int .i64) (.int .i64))))], .dead, .sl (.st (.pair (.int .i64) (.int .i64))), .dead, .dead, .dead, .dead, .dead, .dead, .dead, .dead, .dead, .dead, .dead, .dead, .dead, .dead, .dead, .dead, .dead, .dead, .dead, .dead, .dead, .dead, .dead, .dead, .dead, .dead, .dead, .dead, .dead, .dead, .dead, .dead, .dead, .dead, .dead, .dead, .dead, .dead, .dead, .dead, .dead, .dead, .dead, .dead, .dead, .dead, .dead, .dead, .dead, .dead, .dead, .dead, .dead, .dead, .dead, .dead, .dead, .dead, .dead, .dead, .dead, .dead, .dead, .dead, .dead, .dead, .dead, .dead, .dead, .dead, .dead, .dead, .dead, .dead])]
def g_arena_Arena_Add_0 (N : Nat) : Nat → List (List Int × (List (Option Nat) × Unit)) → List (Int × (Int × (Int × (List ((Int × Int)) × Unit)))) → Option Nat → Int → Int → ((Int × (Int × Int)) × Unit) → List ((Int × Int)) → (Nat × (Nat × Nat)) → Int → Int → Option ((List (List Int × (List (Option Nat) × Unit)) × (List (Int × (Int × (Int × (List ((Int × Int)) × Unit)))) × Unit)) × (Option Nat × (Int × (Int × (((Int × (Int × Int)) × Unit) × (List ((Int × Int)) × Unit))))))
  | 0, _, _, _, _, _, _, _, _, _, _ => none
  | n + 1, T0, T1, a_0, id_1, size_2, t_6, l_8, t_28, t_29, t_30 =>
    cond (decide (t_30 < t_29))
      (
      cond (decide ((0 : Int) ≤ t_30))
        (
        cond (decide ((Int.toNat t_30) < ((t_28).2).2))
          (
          cond (decide ((((t_28).2).1 + (Int.toNat t_30)) < (List.length (((List.getD T0 (t_28).1 (([] : List Int), (([] : List (Option Nat)), ())))).2).1)))
            (
            cond (@Option.isSome Nat (List.getD (((List.getD T0 (t_28).1 (([] : List Int), (([] : List (Option Nat)), ())))).2).1 (((t_28).2).1 + (Int.toNat t_30)) (@Option.none Nat)))
              (
              cond (@Option.isSome Nat (List.getD (((List.getD T0 (t_28).1 (([] : List Int), (([] : List (Option Nat)), ())))).2).1 (((t_28).2).1 + (Int.toNat t_30)) (@Option.none Nat)))
                (
                cond (decide (((0 : Nat) + (List.length l_8)) = (List.length l_8)))
                  (
                  cond (decide ((((List.length l_8) + 1) * (16 + (1 : Nat))) ≤ Go.Eng.most))
                    (
                    cond (decide (((List.length l_8) + 1) = (List.length ((List.take (List.length l_8) l_8) ++ (((((List.getD T1 (@Option.getD Nat (List.getD (((List.getD T0 (t_28).1 (([] : List Int), (([] : List (Option Nat)), ())))).2).1 (((t_28).2).1 + (Int.toNat t_30)) (@Option.none Nat)) (0 : Nat)) ((0 : Int), ((0 : Int), ((0 : Int), (([] : List (Int × Int)), ())))))).2).1, ((((List.getD T1 (@Option.getD Nat (List.getD (((List.getD T0 (t_28).1 (([] : List Int), (([] : List (Option Nat)), ())))).2).1 (((t_28).2).1 + (Int.toNat t_30)) (@Option.none Nat)) (0 : Nat)) ((0 : Int), ((0 : Int), ((0 : Int), (([] : List (Int × Int)), ())))))).2).2).1) :: ([] : List (Int × Int)))))))
                      (
                      (g_arena_Arena_Add_0 N n T0 T1 a_0 id_1 size_2 t_6 ((List.take (List.length l_8) l_8) ++ (((((List.getD T1 (@Option.getD Nat (List.getD (((List.getD T0 (t_28).1 (([] : List Int), (([] : List (Option Nat)), ())))).2).1 (((t_28).2).1 + (Int.toNat t_30)) (@Option.none Nat)) (0 : Nat)) ((0 : Int), ((0 : Int), ((0 : Int), (([] : List (Int × Int)), ())))))).2).1, ((((List.getD T1 (@Option.getD Nat (List.getD (((List.getD T0 (t_28).1 (([] : List Int), (([] : List (Option Nat)), ())))).2).1 (((t_28).2).1 + (Int.toNat t_30)) (@Option.none Nat)) (0 : Nat)) ((0 : Int), ((0 : Int), ((0 : Int), (([] : List (Int × Int)), ())))))).2).2).1) :: ([] : List (Int × Int)))) t_28 t_29 (wi64 (t_30 + (1 : Int)))))
                      (
                      none))
                    (
                    none))
                  (
                  none))
                (
                none))
              (
              none))
            (
            none))
          (
          none))
        (
        none))
      (
      cond (decide ((List.length l_8) = (List.length l_8)))
        (
        some ((T0, (T1, ())), (a_0, (id_1, (size_2, (t_6, (l_8, ())))))))
        (
        none))

def F_arena_Arena_Add (N : Nat) (T0 : List (List Int × (List (Option Nat) × Unit))) (T1 : List (Int × (Int × (Int × (List ((Int × Int)) × Unit))))) (a_0 : Option Nat) (id_1 : Int) (size_2 : Int) : Option ((List (List Int × (List (Option Nat) × Unit)) × (List (Int × (Int × (Int × (List ((Int × Int)) × Unit)))) × Unit)) × ((Int × (Int × Int)) × (Er × Unit))) :=
  cond (decide (size_2 < (1 : Int)))
    (
    some ((T0, (T1, ())), (((0 : Int), ((0 : Int), (0 : Int))), ((Go.Eng.Er.s ErrRange), ()))))
    (
    Option.bind (F_arena_Arena_find N T0 T1 a_0 id_1) fun y0 =>
    cond (Bool.not (@Option.isNone Nat ((y0).2).1))
      (
      some ((y0).1, (((0 : Int), ((0 : Int), (0 : Int))), ((Go.Eng.Er.s ErrRange), ()))))
      (
      cond (@Option.isSome Nat a_0)
        (
        Option.bind (g_arena_Arena_Add_0 N N ((y0).1).1 (((y0).1).2).1 a_0 id_1 size_2 (((0 : Int), ((0 : Int), (0 : Int))), ()) ([] : List (Int × Int)) ((@Option.getD Nat a_0 (0 : Nat)), ((0 : Nat), (List.length (((List.getD ((y0).1).1 (@Option.getD Nat a_0 (0 : Nat)) (([] : List Int), (([] : List (Option Nat)), ())))).2).1))) (Nat.cast (List.length (((List.getD ((y0).1).1 (@Option.getD Nat a_0 (0 : Nat)) (([] : List Int), (([] : List (Option Nat)), ())))).2).1) : Int) (0 : Int)) fun y1 =>
        cond (@Option.isSome Nat ((y1).2).1)
          (
          cond (decide (((0 : Nat) + (List.length ((((((y1).2).2).2).2).2).1)) ≤ (List.length ((((((y1).2).2).2).2).2).1)))
            (
            Option.bind (F_arena_gap N (List.take (List.length ((((((y1).2).2).2).2).2).1) ((((((y1).2).2).2).2).2).1) (Nat.cast (List.length ((List.getD ((y1).1).1 (@Option.getD Nat ((y1).2).1 (0 : Nat)) (([] : List Int), (([] : List (Option Nat)), ())))).1) : Int) ((((y1).2).2).2).1) fun y2 =>
            cond (Bool.not ((((y2).2).2).2).1)
              (
              some ((y1).1, (((0 : Int), ((0 : Int), (0 : Int))), ((Go.Eng.Er.s ErrRoom), ()))))
              (
              cond (@Option.isSome Nat ((y1).2).1)
                (
                cond (decide (((0 : Nat) + (List.length (((List.getD ((y1).1).1 (@Option.getD Nat ((y1).2).1 (0 : Nat)) (([] : List Int), (([] : List (Option Nat)), ())))).2).1)) = (List.length (((List.getD ((y1).1).1 (@Option.getD Nat ((y1).2).1 (0 : Nat)) (([] : List Int), (([] : List (Option Nat)), ())))).2).1)))
                  (
                  cond (decide ((0 : Int) ≤ (((y2).2).2).1))
                    (
                    cond (decide ((Int.toNat (((y2).2).2).1) ≤ (List.length (List.take (List.length (((List.getD ((y1).1).1 (@Option.getD Nat ((y1).2).1 (0 : Nat)) (([] : List Int), (([] : List (Option Nat)), ())))).2).1) (((List.getD ((y1).1).1 (@Option.getD Nat ((y1).2).1 (0 : Nat)) (([] : List Int), (([] : List (Option Nat)), ())))).2).1))))
                      (
                      cond (decide ((((List.length (List.take (List.length (((List.getD ((y1).1).1 (@Option.getD Nat ((y1).2).1 (0 : Nat)) (([] : List Int), (([] : List (Option Nat)), ())))).2).1) (((List.getD ((y1).1).1 (@Option.getD Nat ((y1).2).1 (0 : Nat)) (([] : List Int), (([] : List (Option Nat)), ())))).2).1)) + (1 : Nat)) * ((8 : Nat) + (1 : Nat))) ≤ Go.Eng.most))
                        (
                        cond (@Option.isSome Nat ((y1).2).1)
                          (
                          cond (decide (((0 : Nat) + ((List.length (List.take (List.length (((List.getD ((y1).1).1 (@Option.getD Nat ((y1).2).1 (0 : Nat)) (([] : List Int), (([] : List (Option Nat)), ())))).2).1) (((List.getD ((y1).1).1 (@Option.getD Nat ((y1).2).1 (0 : Nat)) (([] : List Int), (([] : List (Option Nat)), ())))).2).1)) + (1 : Nat))) ≤ (List.length (((List.take (Int.toNat (((y2).2).2).1) (List.take (List.length (((List.getD ((y1).1).1 (@Option.getD Nat ((y1).2).1 (0 : Nat)) (([] : List Int), (([] : List (Option Nat)), ())))).2).1) (((List.getD ((y1).1).1 (@Option.getD Nat ((y1).2).1 (0 : Nat)) (([] : List Int), (([] : List (Option Nat)), ())))).2).1)) ++ ((@Option.some Nat (List.length (((y1).1).2).1)) :: ([] : List (Option Nat)))) ++ (List.drop (Int.toNat (((y2).2).2).1) (List.take (List.length (((List.getD ((y1).1).1 (@Option.getD Nat ((y1).2).1 (0 : Nat)) (([] : List Int), (([] : List (Option Nat)), ())))).2).1) (((List.getD ((y1).1).1 (@Option.getD Nat ((y1).2).1 (0 : Nat)) (([] : List Int), (([] : List (Option Nat)), ())))).2).1))))))
                            (
                            cond (decide ((@Option.getD Nat ((y1).2).1 (0 : Nat)) = (@Option.getD Nat ((y1).2).1 (0 : Nat))))
                              (
                              some (((List.set ((y1).1).1 (@Option.getD Nat ((y1).2).1 (0 : Nat)) (((List.getD ((y1).1).1 (@Option.getD Nat ((y1).2).1 (0 : Nat)) (([] : List Int), (([] : List (Option Nat)), ())))).1, ((List.take ((List.length (List.take (List.length (((List.getD ((y1).1).1 (@Option.getD Nat ((y1).2).1 (0 : Nat)) (([] : List Int), (([] : List (Option Nat)), ())))).2).1) (((List.getD ((y1).1).1 (@Option.getD Nat ((y1).2).1 (0 : Nat)) (([] : List Int), (([] : List (Option Nat)), ())))).2).1)) + (1 : Nat)) (((List.take (Int.toNat (((y2).2).2).1) (List.take (List.length (((List.getD ((y1).1).1 (@Option.getD Nat ((y1).2).1 (0 : Nat)) (([] : List Int), (([] : List (Option Nat)), ())))).2).1) (((List.getD ((y1).1).1 (@Option.getD Nat ((y1).2).1 (0 : Nat)) (([] : List Int), (([] : List (Option Nat)), ())))).2).1)) ++ ((@Option.some Nat (List.length (((y1).1).2).1)) :: ([] : List (Option Nat)))) ++ (List.drop (Int.toNat (((y2).2).2).1) (List.take (List.length (((List.getD ((y1).1).1 (@Option.getD Nat ((y1).2).1 (0 : Nat)) (([] : List Int), (([] : List (Option Nat)), ())))).2).1) (((List.getD ((y1).1).1 (@Option.getD Nat ((y1).2).1 (0 : Nat)) (([] : List Int), (([] : List (Option Nat)), ())))).2).1)))), (((List.getD ((y1).1).1 (@Option.getD Nat ((y1).2).1 (0 : Nat)) (([] : List Int), (([] : List (Option Nat)), ())))).2).2))), (((((y1).1).2).1 ++ (((((y1).2).2).1, (((y2).2).1, (((((y1).2).2).2).1, (([] : List (Int × Int)), ())))) :: ([] : List (Int × (Int × (Int × ((List (Int × Int)) × PUnit))))))), ())), (((((y1).2).2).1, (((y2).2).1, ((((y1).2).2).2).1)), (Go.Eng.Er.nil, ()))))
                              (
                              none))
                            (
                            none))
                          (
                          none))
                        (
                        none))
                      (
                      none))
                    (
                    none))
                  (
                  none))
                (
                none)))
            (
            none))
          (
          none))
        (
        none)))

abbrev c_arena_Arena_Add (N : Nat) : CallSpec E := ⟨35, ps_arena_Arena_Add, rs_arena_Arena_Add, fun x => F_arena_Arena_Add N x.1.1 x.1.2.1 x.2.1 x.2.2.1 x.2.2.2.1⟩
abbrev l_arena_Arena_Add_0 (N : Nat) : LoopSpec E [0, 1] := ⟨0, h_arena_Arena_Add_0, e_arena_Arena_Add_0, fun x => g_arena_Arena_Add_0 N N x.1.1 x.1.2.1 x.2.1 x.2.2.1 x.2.2.2.1 x.2.2.2.2.1 x.2.2.2.2.2.1 x.2.2.2.2.2.2.1 x.2.2.2.2.2.2.2.1 x.2.2.2.2.2.2.2.2.1⟩

theorem cs_arena_Arena_Add_ok (S : Ini) (N : Nat) : CallsOK Go.Proofs.Tryz.prog E S (cs_arena_Arena_Add N) :=
  .cons (F_arena_Arena_find_ok S N) (.cons (F_arena_gap_ok S N) (.nil))
noncomputable abbrev b_arena_Arena_Add_0 : Code := (loopsOf b_arena_Arena_Add).getD 0 .skip
theorem g_arena_Arena_Add_0_ok (S : Ini) (N : Nat) : ∀ n x y, (fun (x : StV E [0, 1] h_arena_Arena_Add_0) => g_arena_Arena_Add_0 N n x.1.1 x.1.2.1 x.2.1 x.2.2.1 x.2.2.2.1 x.2.2.2.2.1 x.2.2.2.2.2.1 x.2.2.2.2.2.2.1 x.2.2.2.2.2.2.2.1 x.2.2.2.2.2.2.2.2.1) x = some y → LoopCon Go.Proofs.Tryz.prog E S b_arena_Arena_Add_0 (encSlots E [0, 1] h_arena_Arena_Add_0 x) (encEx E [0, 1] e_arena_Arena_Add_0 y).1 (encEx E [0, 1] e_arena_Arena_Add_0 y).2 :=
  loop_specJ E_ok mixed (E_ok.ks 35) (cs_arena_Arena_Add_ok S N) (all := loopsOf b_arena_Arena_Add) (ls := []) (.nil) (js := []) (i := 0) (by kernel_rfl) (inner_of (by kernel_rfl)) (head := h_arena_Arena_Add_0) (ex := e_arena_Arena_Add_0) (fun n (x : StV E [0, 1] h_arena_Arena_Add_0) => g_arena_Arena_Add_0 N n x.1.1 x.1.2.1 x.2.1 x.2.2.1 x.2.2.2.1 x.2.2.2.2.1 x.2.2.2.2.2.1 x.2.2.2.2.2.2.1 x.2.2.2.2.2.2.2.1 x.2.2.2.2.2.2.2.2.1) (fun _ => rfl) (fun n x => by kernel_rfl)
theorem F_arena_Arena_Add_ok (S : Ini) (N : Nat) : ∀ x y, (c_arena_Arena_Add N).g x = some y → FCon Go.Proofs.Tryz.prog E S 35 ps_arena_Arena_Add rs_arena_Arena_Add x y := by
  intro x y h
  exact fun_specJ E_ok mixed (cs_arena_Arena_Add_ok S N) (f := 35) (fi := ⟨b_arena_Arena_Add, 83, Go.Proofs.Tryz.f35.results.toList⟩) (by kernel_rfl) (ls := [l_arena_Arena_Add_0 N]) (.cons (by kernel_rfl) (g_arena_Arena_Add_0_ok S N N) (.nil)) (js := []) (by kernel_rfl) (ps := ps_arena_Arena_Add) (rs := rs_arena_Arena_Add) (Eq.trans (b := F_arena_Arena_Add N x.1.1 x.1.2.1 x.2.1 x.2.2.1 x.2.2.2.1) (by kernel_rfl) h)

/-! (*lodge/arena.Arena).Parts -/

abbrev ps_arena_Arena_Parts : List Ty := [(.hd 0)]
abbrev rs_arena_Arena_Parts : List Slot := [.sl (.st (.pair (.int .i64) (.pair (.int .i64) (.int .i64))))]
abbrev cs_arena_Arena_Parts (N : Nat) : List (CallSpec E) := []
noncomputable abbrev b_arena_Arena_Parts : Code := ((Go.Proofs.Tryz.f69.body).getD .skip)

abbrev h_arena_Arena_Parts_0 : List Slot := [.dead, .dead, .dead, .sl (.st (.pair (.int .i64) (.pair (.int .i64) (.int .i64)))), .dead, .dead, .dead, .dead, .dead, .bor (.hd 1) 0 2, .data (.int .i64), .data (.int .i64), .dead, .dead, .dead, .dead, .dead, .dead, .dead, .dead, .dead, .dead, .dead, .dead]
abbrev e_arena_Arena_Parts_0 : List (AX × List Slot) := [(AX.exit 0, [.dead, .dead, .dead, .sl (.st (.pair (.int .i64) (.pair (.int .i64) (.int .i64)))), .dead, .dead, .dead, .dead, .dead, .dead, .dead, .dead, .dead, .dead, .dead, .dead, .dead, .dead, .dead, .dead, .dead, .dead, .dead, .dead])]
def g_arena_Arena_Parts_0 (N : Nat) : Nat → List (List Int × (List (Option Nat) × Unit)) → List (Int × (Int × (Int × (List ((Int × Int)) × Unit)))) → List ((Int × (Int × Int))) → (Nat × (Nat × Nat)) → Int → Int → Option ((List (List Int × (List (Option Nat) × Unit)) × (List (Int × (Int × (Int × (List ((Int × Int)) × Unit)))) × Unit)) × (List ((Int × (Int × Int))) × Unit))
  | 0, _, _, _, _, _, _ => none
  | n + 1, T0, T1, out_3, t_9, t_10, t_11 =>
    cond (decide (t_11 < t_10))
      (
      cond (decide ((0 : Int) ≤ t_11))
        (
        cond (decide ((Int.toNat t_11) < ((t_9).2).2))
          (
          cond (decide ((((t_9).2).1 + (Int.toNat t_11)) < (List.length (((List.getD T0 (t_9).1 (([] : List Int), (([] : List (Option Nat)), ())))).2).1)))
            (
            cond (@Option.isSome Nat (List.getD (((List.getD T0 (t_9).1 (([] : List Int), (([] : List (Option Nat)), ())))).2).1 (((t_9).2).1 + (Int.toNat t_11)) (@Option.none Nat)))
              (
              cond (decide (((0 : Nat) + (List.length out_3)) = (List.length out_3)))
                (
                cond (decide ((((List.length out_3) + 1) * (24 + (1 : Nat))) ≤ Go.Eng.most))
                  (
                  cond (decide (((List.length out_3) + 1) = (List.length ((List.take (List.length out_3) out_3) ++ ((((List.getD T1 (@Option.getD Nat (List.getD (((List.getD T0 (t_9).1 (([] : List Int), (([] : List (Option Nat)), ())))).2).1 (((t_9).2).1 + (Int.toNat t_11)) (@Option.none Nat)) (0 : Nat)) ((0 : Int), ((0 : Int), ((0 : Int), (([] : List (Int × Int)), ())))))).1, ((((List.getD T1 (@Option.getD Nat (List.getD (((List.getD T0 (t_9).1 (([] : List Int), (([] : List (Option Nat)), ())))).2).1 (((t_9).2).1 + (Int.toNat t_11)) (@Option.none Nat)) (0 : Nat)) ((0 : Int), ((0 : Int), ((0 : Int), (([] : List (Int × Int)), ())))))).2).1, ((((List.getD T1 (@Option.getD Nat (List.getD (((List.getD T0 (t_9).1 (([] : List Int), (([] : List (Option Nat)), ())))).2).1 (((t_9).2).1 + (Int.toNat t_11)) (@Option.none Nat)) (0 : Nat)) ((0 : Int), ((0 : Int), ((0 : Int), (([] : List (Int × Int)), ())))))).2).2).1)) :: ([] : List (Int × (Int × Int))))))))
                    (
                    (g_arena_Arena_Parts_0 N n T0 T1 ((List.take (List.length out_3) out_3) ++ ((((List.getD T1 (@Option.getD Nat (List.getD (((List.getD T0 (t_9).1 (([] : List Int), (([] : List (Option Nat)), ())))).2).1 (((t_9).2).1 + (Int.toNat t_11)) (@Option.none Nat)) (0 : Nat)) ((0 : Int), ((0 : Int), ((0 : Int), (([] : List (Int × Int)), ())))))).1, ((((List.getD T1 (@Option.getD Nat (List.getD (((List.getD T0 (t_9).1 (([] : List Int), (([] : List (Option Nat)), ())))).2).1 (((t_9).2).1 + (Int.toNat t_11)) (@Option.none Nat)) (0 : Nat)) ((0 : Int), ((0 : Int), ((0 : Int), (([] : List (Int × Int)), ())))))).2).1, ((((List.getD T1 (@Option.getD Nat (List.getD (((List.getD T0 (t_9).1 (([] : List Int), (([] : List (Option Nat)), ())))).2).1 (((t_9).2).1 + (Int.toNat t_11)) (@Option.none Nat)) (0 : Nat)) ((0 : Int), ((0 : Int), ((0 : Int), (([] : List (Int × Int)), ())))))).2).2).1)) :: ([] : List (Int × (Int × Int))))) t_9 t_10 (wi64 (t_11 + (1 : Int)))))
                    (
                    none))
                  (
                  none))
                (
                none))
              (
              none))
            (
            none))
          (
          none))
        (
        none))
      (
      cond (decide ((List.length out_3) = (List.length out_3)))
        (
        some ((T0, (T1, ())), (out_3, ())))
        (
        none))

def F_arena_Arena_Parts (N : Nat) (T0 : List (List Int × (List (Option Nat) × Unit))) (T1 : List (Int × (Int × (Int × (List ((Int × Int)) × Unit))))) (a_0 : Option Nat) : Option ((List (List Int × (List (Option Nat) × Unit)) × (List (Int × (Int × (Int × (List ((Int × Int)) × Unit)))) × Unit)) × (List ((Int × (Int × Int))) × Unit)) :=
  cond (@Option.isSome Nat a_0)
    (
    Option.bind (g_arena_Arena_Parts_0 N N T0 T1 ([] : List (Int × (Int × Int))) ((@Option.getD Nat a_0 (0 : Nat)), ((0 : Nat), (List.length (((List.getD T0 (@Option.getD Nat a_0 (0 : Nat)) (([] : List Int), (([] : List (Option Nat)), ())))).2).1))) (Nat.cast (List.length (((List.getD T0 (@Option.getD Nat a_0 (0 : Nat)) (([] : List Int), (([] : List (Option Nat)), ())))).2).1) : Int) (0 : Int)) fun y0 =>
    cond (decide ((List.length ((y0).2).1) = (List.length ((y0).2).1)))
      (
      some y0)
      (
      none))
    (
    none)

abbrev c_arena_Arena_Parts (N : Nat) : CallSpec E := ⟨69, ps_arena_Arena_Parts, rs_arena_Arena_Parts, fun x => F_arena_Arena_Parts N x.1.1 x.1.2.1 x.2.1⟩
abbrev l_arena_Arena_Parts_0 (N : Nat) : LoopSpec E [0, 1] := ⟨0, h_arena_Arena_Parts_0, e_arena_Arena_Parts_0, fun x => g_arena_Arena_Parts_0 N N x.1.1 x.1.2.1 x.2.1 x.2.2.1 x.2.2.2.1 x.2.2.2.2.1⟩

theorem cs_arena_Arena_Parts_ok (S : Ini) (N : Nat) : CallsOK Go.Proofs.Tryz.prog E S (cs_arena_Arena_Parts N) :=
  .nil
noncomputable abbrev b_arena_Arena_Parts_0 : Code := (loopsOf b_arena_Arena_Parts).getD 0 .skip
theorem g_arena_Arena_Parts_0_ok (S : Ini) (N : Nat) : ∀ n x y, (fun (x : StV E [0, 1] h_arena_Arena_Parts_0) => g_arena_Arena_Parts_0 N n x.1.1 x.1.2.1 x.2.1 x.2.2.1 x.2.2.2.1 x.2.2.2.2.1) x = some y → LoopCon Go.Proofs.Tryz.prog E S b_arena_Arena_Parts_0 (encSlots E [0, 1] h_arena_Arena_Parts_0 x) (encEx E [0, 1] e_arena_Arena_Parts_0 y).1 (encEx E [0, 1] e_arena_Arena_Parts_0 y).2 :=
  loop_specJ E_ok mixed (E_ok.ks 69) (cs_arena_Arena_Parts_ok S N) (all := loopsOf b_arena_Arena_Parts) (ls := []) (.nil) (js := []) (i := 0) (by kernel_rfl) (inner_of (by kernel_rfl)) (head := h_arena_Arena_Parts_0) (ex := e_arena_Arena_Parts_0) (fun n (x : StV E [0, 1] h_arena_Arena_Parts_0) => g_arena_Arena_Parts_0 N n x.1.1 x.1.2.1 x.2.1 x.2.2.1 x.2.2.2.1 x.2.2.2.2.1) (fun _ => rfl) (fun n x => by kernel_rfl)
theorem F_arena_Arena_Parts_ok (S : Ini) (N : Nat) : ∀ x y, (c_arena_Arena_Parts N).g x = some y → FCon Go.Proofs.Tryz.prog E S 69 ps_arena_Arena_Parts rs_arena_Arena_Parts x y := by
  intro x y h
  exact fun_specJ E_ok mixed (cs_arena_Arena_Parts_ok S N) (f := 69) (fi := ⟨b_arena_Arena_Parts, 24, Go.Proofs.Tryz.f69.results.toList⟩) (by kernel_rfl) (ls := [l_arena_Arena_Parts_0 N]) (.cons (by kernel_rfl) (g_arena_Arena_Parts_0_ok S N N) (.nil)) (js := []) (by kernel_rfl) (ps := ps_arena_Arena_Parts) (rs := rs_arena_Arena_Parts) (Eq.trans (b := F_arena_Arena_Parts N x.1.1 x.1.2.1 x.2.1) (by kernel_rfl) h)

/-! lodge/cell.New -/

abbrev ps_cell_New : List Ty := [(.int .i64), (.int .i64), (.hd 5), (.hd 0)]
abbrev rs_cell_New : List Slot := [.data (.hd 8), .data .err]
abbrev cs_cell_New (N : Nat) : List (CallSpec E) := [c_arena_Arena_Parts N]
noncomputable abbrev b_cell_New : Code := ((Go.Proofs.Tryz.f36.body).getD .skip)

abbrev h_cell_New_0 : List Slot := [.data (.int .i64), .data (.int .i64), .data (.hd 5), .data (.hd 0), .dead, .dead, .dead, .dead, .dead, .dead, .dead, .dead, .dead, .dead, .dead, .dead, .dead, .dead, .dead, .dead, .dead, .dead, .dead, .dead, .dead, .dead, .dead, .dead, .sl (.st (.pair (.int .i64) (.pair (.int .i64) (.int .i64)))), .data (.int .i64), .data (.int .i64), .dead, .dead, .dead, .dead, .dead, .dead, .dead, .dead, .dead, .dead, .dead, .dead, .dead, .dead, .dead, .dead, .dead]
abbrev e_cell_New_0 : List (AX × List Slot) := [(AX.exit 0, [.dead, .dead, .dead, .dead, .dead, .dead, .dead, .dead, .dead, .dead, .dead, .dead, .dead, .dead, .dead, .dead, .dead, .dead, .dead, .dead, .dead, .dead, .dead, .dead, .dead, .dead, .dead, .dead, .dead, .dead, .dead, .dead, .dead, .dead, .dead, .dead, .dead, .dead, .dead, .dead, .dead, .dead, .dead, .dead, .dead, .dead, .dead, .dead]), (AX.ret, [.dead, .dead, .dead, .dead, .dead, .dead, .dead, .dead, .data (.hd 8), .data .err, .dead, .dead, .dead, .dead, .dead, .dead, .dead, .dead, .dead, .dead, .dead, .dead, .dead, .dead, .dead, .dead, .dead, .dead, .dead, .dead, .dead, .dead, .dead, .dead, .dead, .dead, .dead, .dead, .dead, .dead, .dead, .dead, .dead, .dead, .dead, .dead, .dead, .dead])]
def g_cell_New_0 (N : Nat) : Nat → List (List Int × (List (Option Nat) × Unit)) → List (Int × (Int × (Int × (List ((Int × Int)) × Unit)))) → List (Nat × (List ((Int × Int) × ((Bool × (((List Int × Bool) × List Int) × ((Int × Int) × Int))) × Nat)) × Unit)) → List (Nat × (List ((Int × Int) × (Int × Nat)) × Unit)) → List (Nat × (List (((Int × Int) × Int) × (Int × Nat)) × Unit)) → List (Option Nat × (Option Nat × (Option Nat × Unit))) → List (Nat × (List (Int × (Int × Nat)) × Unit)) → List (Nat × (List (Int × (((Int × (List ((Int × (List Int × Bool))) × (List (((List Int × Bool) × List Int)) × (List ((List Int × Bool)) × (List ((Int × (Int × (List Int × (List Int × (Int × Int)))))) × (Int × Int)))))) × Int) × Nat)) × Unit)) → List (Int × (Int × (Option Nat × (Option Nat × (Option Nat × (Option Nat × (List ((Int × (Option Nat × Int))) × Unit))))))) → List (Int × (List ((Int × (List Int × Bool))) × (List (((List Int × Bool) × List Int)) × (List ((List Int × Bool)) × (List ((Int × (Int × (List Int × (List Int × (Int × Int)))))) × (Int × (Int × (List (((List Int × Bool) × List Int)) × (List Int × (Int × (Int × (Int × (Int × (List Int × Unit)))))))))))))) → Int → Int → Option Nat → Option Nat → List ((Int × (Int × Int))) → Int → Int → Option (Sum ((List (List Int × (List (Option Nat) × Unit)) × (List (Int × (Int × (Int × (List ((Int × Int)) × Unit)))) × (List (Nat × (List ((Int × Int) × ((Bool × (((List Int × Bool) × List Int) × ((Int × Int) × Int))) × Nat)) × Unit)) × (List (Nat × (List ((Int × Int) × (Int × Nat)) × Unit)) × (List (Nat × (List (((Int × Int) × Int) × (Int × Nat)) × Unit)) × (List (Option Nat × (Option Nat × (Option Nat × Unit))) × (List (Nat × (List (Int × (Int × Nat)) × Unit)) × (List (Nat × (List (Int × (((Int × (List ((Int × (List Int × Bool))) × (List (((List Int × Bool) × List Int)) × (List ((List Int × Bool)) × (List ((Int × (Int × (List Int × (List Int × (Int × Int)))))) × (Int × Int)))))) × Int) × Nat)) × Unit)) × (List (Int × (Int × (Option Nat × (Option Nat × (Option Nat × (Option Nat × (List ((Int × (Option Nat × Int))) × Unit))))))) × (List (Int × (List ((Int × (List Int × Bool))) × (List (((List Int × Bool) × List Int)) × (List ((List Int × Bool)) × (List ((Int × (Int × (List Int × (List Int × (Int × Int)))))) × (Int × (Int × (List (((List Int × Bool) × List Int)) × (List Int × (Int × (Int × (Int × (Int × (List Int × Unit)))))))))))))) × Unit)))))))))) × Unit) ((List (List Int × (List (Option Nat) × Unit)) × (List (Int × (Int × (Int × (List ((Int × Int)) × Unit)))) × (List (Nat × (List ((Int × Int) × ((Bool × (((List Int × Bool) × List Int) × ((Int × Int) × Int))) × Nat)) × Unit)) × (List (Nat × (List ((Int × Int) × (Int × Nat)) × Unit)) × (List (Nat × (List (((Int × Int) × Int) × (Int × Nat)) × Unit)) × (List (Option Nat × (Option Nat × (Option Nat × Unit))) × (List (Nat × (List (Int × (Int × Nat)) × Unit)) × (List (Nat × (List (Int × (((Int × (List ((Int × (List Int × Bool))) × (List (((List Int × Bool) × List Int)) × (List ((List Int × Bool)) × (List ((Int × (Int × (List Int × (List Int × (Int × Int)))))) × (Int × Int)))))) × Int) × Nat)) × Unit)) × (List (Int × (Int × (Option Nat × (Option Nat × (Option Nat × (Option Nat × (List ((Int × (Option Nat × Int))) × Unit))))))) × (List (Int × (List ((Int × (List Int × Bool))) × (List (((List Int × Bool) × List Int)) × (List ((List Int × Bool)) × (List ((Int × (Int × (List Int × (List Int × (Int × Int)))))) × (Int × (Int × (List (((List Int × Bool) × List Int)) × (List Int × (Int × (Int × (Int × (Int × (List Int × Unit)))))))))))))) × Unit)))))))))) × (Option Nat × (Er × Unit))))
  | 0, _, _, _, _, _, _, _, _, _, _, _, _, _, _, _, _, _ => none
  | n + 1, T0, T1, T2, T3, T4, T5, T6, T7, T8, T10, id_0, queue_1, s_2, a_3, t_28, t_29, t_30 =>
    cond (decide (t_30 < t_29))
      (
      cond (decide ((0 : Int) ≤ t_30))
        (
        cond (decide ((Int.toNat t_30) < (List.length t_28)))
          (
          cond (decide (((0 : Nat) + (Int.toNat t_30)) < (List.length t_28)))
            (
            cond (decide (((List.getD t_28 ((0 : Nat) + (Int.toNat t_30)) ((0 : Int), ((0 : Int), (0 : Int))))).1 = id_0))
              (
              some (Sum.inr ((T0, (T1, (T2, (T3, (T4, (T5, ((T6 ++ (((0 : Nat), (([] : List (Int × (Int × Nat))), ())) :: ([] : List (Nat × ((List (Int × (Int × Nat))) × PUnit))))), ((T7 ++ (((0 : Nat), (([] : List (Int × (((Int × ((List (Int × ((List Int) × Bool))) × ((List (((List Int) × Bool) × (List Int))) × ((List ((List Int) × Bool)) × ((List (Int × (Int × ((List Int) × ((List Int) × (Int × Int)))))) × (Int × Int)))))) × Int) × Nat))), ())) :: ([] : List (Nat × ((List (Int × (((Int × ((List (Int × ((List Int) × Bool))) × ((List (((List Int) × Bool) × (List Int))) × ((List ((List Int) × Bool)) × ((List (Int × (Int × ((List Int) × ((List Int) × (Int × Int)))))) × (Int × Int)))))) × Int) × Nat))) × PUnit))))), ((T8 ++ ((id_0, (queue_1, (s_2, (a_3, ((@Option.some Nat (List.length T6)), ((@Option.some Nat (List.length T7)), (([] : List (Int × ((Option Nat) × Int))), ()))))))) :: ([] : List (Int × (Int × ((Option Nat) × ((Option Nat) × ((Option Nat) × ((Option Nat) × ((List (Int × ((Option Nat) × Int))) × PUnit)))))))))), (T10, ())))))))))), ((@Option.some Nat (List.length T8)), (Go.Eng.Er.nil, ())))))
              (
              cond (decide ((List.length t_28) = (List.length t_28)))
                (
                (g_cell_New_0 N n T0 T1 T2 T3 T4 T5 T6 T7 T8 T10 id_0 queue_1 s_2 a_3 t_28 t_29 (wi64 (t_30 + (1 : Int)))))
                (
                none)))
            (
            none))
          (
          none))
        (
        none))
      (
      some (Sum.inl ((T0, (T1, (T2, (T3, (T4, (T5, (T6, (T7, (T8, (T10, ())))))))))), ())))

def F_cell_New (N : Nat) (T0 : List (List Int × (List (Option Nat) × Unit))) (T1 : List (Int × (Int × (Int × (List ((Int × Int)) × Unit))))) (T2 : List (Nat × (List ((Int × Int) × ((Bool × (((List Int × Bool) × List Int) × ((Int × Int) × Int))) × Nat)) × Unit))) (T3 : List (Nat × (List ((Int × Int) × (Int × Nat)) × Unit))) (T4 : List (Nat × (List (((Int × Int) × Int) × (Int × Nat)) × Unit))) (T5 : List (Option Nat × (Option Nat × (Option Nat × Unit)))) (T6 : List (Nat × (List (Int × (Int × Nat)) × Unit))) (T7 : List (Nat × (List (Int × (((Int × (List ((Int × (List Int × Bool))) × (List (((List Int × Bool) × List Int)) × (List ((List Int × Bool)) × (List ((Int × (Int × (List Int × (List Int × (Int × Int)))))) × (Int × Int)))))) × Int) × Nat)) × Unit))) (T8 : List (Int × (Int × (Option Nat × (Option Nat × (Option Nat × (Option Nat × (List ((Int × (Option Nat × Int))) × Unit)))))))) (T10 : List (Int × (List ((Int × (List Int × Bool))) × (List (((List Int × Bool) × List Int)) × (List ((List Int × Bool)) × (List ((Int × (Int × (List Int × (List Int × (Int × Int)))))) × (Int × (Int × (List (((List Int × Bool) × List Int)) × (List Int × (Int × (Int × (Int × (Int × (List Int × Unit))))))))))))))) (id_0 : Int) (queue_1 : Int) (s_2 : Option Nat) (a_3 : Option Nat) : Option ((List (List Int × (List (Option Nat) × Unit)) × (List (Int × (Int × (Int × (List ((Int × Int)) × Unit)))) × (List (Nat × (List ((Int × Int) × ((Bool × (((List Int × Bool) × List Int) × ((Int × Int) × Int))) × Nat)) × Unit)) × (List (Nat × (List ((Int × Int) × (Int × Nat)) × Unit)) × (List (Nat × (List (((Int × Int) × Int) × (Int × Nat)) × Unit)) × (List (Option Nat × (Option Nat × (Option Nat × Unit))) × (List (Nat × (List (Int × (Int × Nat)) × Unit)) × (List (Nat × (List (Int × (((Int × (List ((Int × (List Int × Bool))) × (List (((List Int × Bool) × List Int)) × (List ((List Int × Bool)) × (List ((Int × (Int × (List Int × (List Int × (Int × Int)))))) × (Int × Int)))))) × Int) × Nat)) × Unit)) × (List (Int × (Int × (Option Nat × (Option Nat × (Option Nat × (Option Nat × (List ((Int × (Option Nat × Int))) × Unit))))))) × (List (Int × (List ((Int × (List Int × Bool))) × (List (((List Int × Bool) × List Int)) × (List ((List Int × Bool)) × (List ((Int × (Int × (List Int × (List Int × (Int × Int)))))) × (Int × (Int × (List (((List Int × Bool) × List Int)) × (List Int × (Int × (Int × (Int × (Int × (List Int × Unit)))))))))))))) × Unit)))))))))) × (Option Nat × (Er × Unit))) :=
  cond (decide (id_0 < (0 : Int)))
    (
    some ((T0, (T1, (T2, (T3, (T4, (T5, (T6, (T7, (T8, (T10, ())))))))))), ((@Option.none Nat), ((Go.Eng.Er.s ErrRange), ()))))
    (
    cond (decide ((16 : Int) ≤ id_0))
      (
      some ((T0, (T1, (T2, (T3, (T4, (T5, (T6, (T7, (T8, (T10, ())))))))))), ((@Option.none Nat), ((Go.Eng.Er.s ErrRange), ()))))
      (
      cond (decide (queue_1 < (1 : Int)))
        (
        some ((T0, (T1, (T2, (T3, (T4, (T5, (T6, (T7, (T8, (T10, ())))))))))), ((@Option.none Nat), ((Go.Eng.Er.s ErrRange), ()))))
        (
        cond (decide ((64 : Int) < queue_1))
          (
          some ((T0, (T1, (T2, (T3, (T4, (T5, (T6, (T7, (T8, (T10, ())))))))))), ((@Option.none Nat), ((Go.Eng.Er.s ErrRange), ()))))
          (
          Option.bind (F_arena_Arena_Parts N T0 T1 a_3) fun y0 =>
          cond (decide ((List.length ((y0).2).1) = (List.length ((y0).2).1)))
            (
            Option.bind (g_cell_New_0 N N ((y0).1).1 (((y0).1).2).1 T2 T3 T4 T5 T6 T7 T8 T10 id_0 queue_1 s_2 a_3 ((y0).2).1 (Nat.cast (List.length ((y0).2).1) : Int) (0 : Int)) fun y1 =>
            Sum.elim (fun y2 =>
              some ((y2).1, ((@Option.none Nat), ((Go.Eng.Er.s ErrNone), ()))))
              (fun y3 =>
              some y3) y1)
            (
            none)))))

abbrev c_cell_New (N : Nat) : CallSpec E := ⟨36, ps_cell_New, rs_cell_New, fun x => F_cell_New N x.1.1 x.1.2.1 x.1.2.2.1 x.1.2.2.2.1 x.1.2.2.2.2.1 x.1.2.2.2.2.2.1 x.1.2.2.2.2.2.2.1 x.1.2.2.2.2.2.2.2.1 x.1.2.2.2.2.2.2.2.2.1 x.1.2.2.2.2.2.2.2.2.2.1 x.2.1 x.2.2.1 x.2.2.2.1 x.2.2.2.2.1⟩
abbrev l_cell_New_0 (N : Nat) : LoopSpec E [0, 1, 2, 3, 4, 5, 6, 7, 8, 10] := ⟨0, h_cell_New_0, e_cell_New_0, fun x => g_cell_New_0 N N x.1.1 x.1.2.1 x.1.2.2.1 x.1.2.2.2.1 x.1.2.2.2.2.1 x.1.2.2.2.2.2.1 x.1.2.2.2.2.2.2.1 x.1.2.2.2.2.2.2.2.1 x.1.2.2.2.2.2.2.2.2.1 x.1.2.2.2.2.2.2.2.2.2.1 x.2.1 x.2.2.1 x.2.2.2.1 x.2.2.2.2.1 x.2.2.2.2.2.1 x.2.2.2.2.2.2.1 x.2.2.2.2.2.2.2.1⟩

theorem cs_cell_New_ok (S : Ini) (N : Nat) : CallsOK Go.Proofs.Tryz.prog E S (cs_cell_New N) :=
  .cons (F_arena_Arena_Parts_ok S N) (.nil)
noncomputable abbrev b_cell_New_0 : Code := (loopsOf b_cell_New).getD 0 .skip
theorem g_cell_New_0_ok (S : Ini) (N : Nat) : ∀ n x y, (fun (x : StV E [0, 1, 2, 3, 4, 5, 6, 7, 8, 10] h_cell_New_0) => g_cell_New_0 N n x.1.1 x.1.2.1 x.1.2.2.1 x.1.2.2.2.1 x.1.2.2.2.2.1 x.1.2.2.2.2.2.1 x.1.2.2.2.2.2.2.1 x.1.2.2.2.2.2.2.2.1 x.1.2.2.2.2.2.2.2.2.1 x.1.2.2.2.2.2.2.2.2.2.1 x.2.1 x.2.2.1 x.2.2.2.1 x.2.2.2.2.1 x.2.2.2.2.2.1 x.2.2.2.2.2.2.1 x.2.2.2.2.2.2.2.1) x = some y → LoopCon Go.Proofs.Tryz.prog E S b_cell_New_0 (encSlots E [0, 1, 2, 3, 4, 5, 6, 7, 8, 10] h_cell_New_0 x) (encEx E [0, 1, 2, 3, 4, 5, 6, 7, 8, 10] e_cell_New_0 y).1 (encEx E [0, 1, 2, 3, 4, 5, 6, 7, 8, 10] e_cell_New_0 y).2 :=
  loop_specJ E_ok mixed (E_ok.ks 36) (cs_cell_New_ok S N) (all := loopsOf b_cell_New) (ls := []) (.nil) (js := []) (i := 0) (by kernel_rfl) (inner_of (by kernel_rfl)) (head := h_cell_New_0) (ex := e_cell_New_0) (fun n (x : StV E [0, 1, 2, 3, 4, 5, 6, 7, 8, 10] h_cell_New_0) => g_cell_New_0 N n x.1.1 x.1.2.1 x.1.2.2.1 x.1.2.2.2.1 x.1.2.2.2.2.1 x.1.2.2.2.2.2.1 x.1.2.2.2.2.2.2.1 x.1.2.2.2.2.2.2.2.1 x.1.2.2.2.2.2.2.2.2.1 x.1.2.2.2.2.2.2.2.2.2.1 x.2.1 x.2.2.1 x.2.2.2.1 x.2.2.2.2.1 x.2.2.2.2.2.1 x.2.2.2.2.2.2.1 x.2.2.2.2.2.2.2.1) (fun _ => rfl) (fun n x => by kernel_rfl)
theorem F_cell_New_ok (S : Ini) (N : Nat) : ∀ x y, (c_cell_New N).g x = some y → FCon Go.Proofs.Tryz.prog E S 36 ps_cell_New rs_cell_New x y := by
  intro x y h
  exact fun_specJ E_ok mixed (cs_cell_New_ok S N) (f := 36) (fi := ⟨b_cell_New, 48, Go.Proofs.Tryz.f36.results.toList⟩) (by kernel_rfl) (ls := [l_cell_New_0 N]) (.cons (by kernel_rfl) (g_cell_New_0_ok S N N) (.nil)) (js := []) (by kernel_rfl) (ps := ps_cell_New) (rs := rs_cell_New) (Eq.trans (b := F_cell_New N x.1.1 x.1.2.1 x.1.2.2.1 x.1.2.2.2.1 x.1.2.2.2.2.1 x.1.2.2.2.2.2.1 x.1.2.2.2.2.2.2.1 x.1.2.2.2.2.2.2.2.1 x.1.2.2.2.2.2.2.2.2.1 x.1.2.2.2.2.2.2.2.2.2.1 x.2.1 x.2.2.1 x.2.2.2.1 x.2.2.2.2.1) (by kernel_rfl) h)

/-! lodge/lodgelaw28.made -/

abbrev ps_lodgelaw28_made : List Ty := [(.int .i64), (.int .i64), (.int .i64)]
abbrev rs_lodgelaw28_made : List Slot := [.data (.hd 8), .data (.hd 5), .data (.hd 0)]
abbrev cs_lodgelaw28_made (N : Nat) : List (CallSpec E) := [c_caps_New N, c_arena_New N, c_arena_Arena_Add N, c_cell_New N]
noncomputable abbrev b_lodgelaw28_made : Code := ((Go.Proofs.Tryz.f15.body).getD .skip)

def F_lodgelaw28_made (N : Nat) (T0 : List (List Int × (List (Option Nat) × Unit))) (T1 : List (Int × (Int × (Int × (List ((Int × Int)) × Unit))))) (T2 : List (Nat × (List ((Int × Int) × ((Bool × (((List Int × Bool) × List Int) × ((Int × Int) × Int))) × Nat)) × Unit))) (T3 : List (Nat × (List ((Int × Int) × (Int × Nat)) × Unit))) (T4 : List (Nat × (List (((Int × Int) × Int) × (Int × Nat)) × Unit))) (T5 : List (Option Nat × (Option Nat × (Option Nat × Unit)))) (T6 : List (Nat × (List (Int × (Int × Nat)) × Unit))) (T7 : List (Nat × (List (Int × (((Int × (List ((Int × (List Int × Bool))) × (List (((List Int × Bool) × List Int)) × (List ((List Int × Bool)) × (List ((Int × (Int × (List Int × (List Int × (Int × Int)))))) × (Int × Int)))))) × Int) × Nat)) × Unit))) (T8 : List (Int × (Int × (Option Nat × (Option Nat × (Option Nat × (Option Nat × (List ((Int × (Option Nat × Int))) × Unit)))))))) (T10 : List (Int × (List ((Int × (List Int × Bool))) × (List (((List Int × Bool) × List Int)) × (List ((List Int × Bool)) × (List ((Int × (Int × (List Int × (List Int × (Int × Int)))))) × (Int × (Int × (List (((List Int × Bool) × List Int)) × (List Int × (Int × (Int × (Int × (Int × (List Int × Unit))))))))))))))) (id_0 : Int) (part_1 : Int) (queue_2 : Int) : Option ((List (List Int × (List (Option Nat) × Unit)) × (List (Int × (Int × (Int × (List ((Int × Int)) × Unit)))) × (List (Nat × (List ((Int × Int) × ((Bool × (((List Int × Bool) × List Int) × ((Int × Int) × Int))) × Nat)) × Unit)) × (List (Nat × (List ((Int × Int) × (Int × Nat)) × Unit)) × (List (Nat × (List (((Int × Int) × Int) × (Int × Nat)) × Unit)) × (List (Option Nat × (Option Nat × (Option Nat × Unit))) × (List (Nat × (List (Int × (Int × Nat)) × Unit)) × (List (Nat × (List (Int × (((Int × (List ((Int × (List Int × Bool))) × (List (((List Int × Bool) × List Int)) × (List ((List Int × Bool)) × (List ((Int × (Int × (List Int × (List Int × (Int × Int)))))) × (Int × Int)))))) × Int) × Nat)) × Unit)) × (List (Int × (Int × (Option Nat × (Option Nat × (Option Nat × (Option Nat × (List ((Int × (Option Nat × Int))) × Unit))))))) × (List (Int × (List ((Int × (List Int × Bool))) × (List (((List Int × Bool) × List Int)) × (List ((List Int × Bool)) × (List ((Int × (Int × (List Int × (List Int × (Int × Int)))))) × (Int × (Int × (List (((List Int × Bool) × List Int)) × (List Int × (Int × (Int × (Int × (Int × (List Int × Unit)))))))))))))) × Unit)))))))))) × (Option Nat × (Option Nat × (Option Nat × Unit)))) :=
  Option.bind (F_caps_New N T2 T3 T4 T5) fun y0 =>
  Option.bind (F_arena_New N T0 T1 part_1) fun y1 =>
  cond (@Option.isNone Nat ((y0).2).1)
    (
    some ((((y1).1).1, ((((y1).1).2).1, (((y0).1).1, ((((y0).1).2).1, (((((y0).1).2).2).1, ((((((y0).1).2).2).2).1, (T6, (T7, (T8, (T10, ())))))))))), ((@Option.none Nat), ((@Option.none Nat), ((@Option.none Nat), ())))))
    (
    cond (@Option.isNone Nat ((y1).2).1)
      (
      some ((((y1).1).1, ((((y1).1).2).1, (((y0).1).1, ((((y0).1).2).1, (((((y0).1).2).2).1, ((((((y0).1).2).2).2).1, (T6, (T7, (T8, (T10, ())))))))))), ((@Option.none Nat), ((@Option.none Nat), ((@Option.none Nat), ())))))
      (
      cond (Bool.not (Go.Eng.Er.isNil (((y1).2).2).1))
        (
        some ((((y1).1).1, ((((y1).1).2).1, (((y0).1).1, ((((y0).1).2).1, (((((y0).1).2).2).1, ((((((y0).1).2).2).2).1, (T6, (T7, (T8, (T10, ())))))))))), ((@Option.none Nat), ((@Option.none Nat), ((@Option.none Nat), ())))))
        (
        Option.bind (F_arena_Arena_Add N ((y1).1).1 (((y1).1).2).1 ((y1).2).1 id_0 part_1) fun y2 =>
        Option.bind (F_cell_New N ((y2).1).1 (((y2).1).2).1 ((y0).1).1 (((y0).1).2).1 ((((y0).1).2).2).1 (((((y0).1).2).2).2).1 T6 T7 T8 T10 id_0 queue_2 ((y0).2).1 ((y1).2).1) fun y3 =>
        cond (Bool.not (Go.Eng.Er.isNil (((y2).2).2).1))
          (
          some ((y3).1, ((@Option.none Nat), ((@Option.none Nat), ((@Option.none Nat), ())))))
          (
          cond (Bool.not (Go.Eng.Er.isNil (((y3).2).2).1))
            (
            some ((y3).1, ((@Option.none Nat), ((@Option.none Nat), ((@Option.none Nat), ())))))
            (
            some ((y3).1, (((y3).2).1, (((y0).2).1, (((y1).2).1, ())))))))))

abbrev c_lodgelaw28_made (N : Nat) : CallSpec E := ⟨15, ps_lodgelaw28_made, rs_lodgelaw28_made, fun x => F_lodgelaw28_made N x.1.1 x.1.2.1 x.1.2.2.1 x.1.2.2.2.1 x.1.2.2.2.2.1 x.1.2.2.2.2.2.1 x.1.2.2.2.2.2.2.1 x.1.2.2.2.2.2.2.2.1 x.1.2.2.2.2.2.2.2.2.1 x.1.2.2.2.2.2.2.2.2.2.1 x.2.1 x.2.2.1 x.2.2.2.1⟩

theorem cs_lodgelaw28_made_ok (S : Ini) (N : Nat) : CallsOK Go.Proofs.Tryz.prog E S (cs_lodgelaw28_made N) :=
  .cons (F_caps_New_ok S N) (.cons (F_arena_New_ok S N) (.cons (F_arena_Arena_Add_ok S N) (.cons (F_cell_New_ok S N) (.nil))))
theorem F_lodgelaw28_made_ok (S : Ini) (N : Nat) : ∀ x y, (c_lodgelaw28_made N).g x = some y → FCon Go.Proofs.Tryz.prog E S 15 ps_lodgelaw28_made rs_lodgelaw28_made x y := by
  intro x y h
  exact fun_specJ E_ok mixed (cs_lodgelaw28_made_ok S N) (f := 15) (fi := ⟨b_lodgelaw28_made, 56, Go.Proofs.Tryz.f15.results.toList⟩) (by kernel_rfl) (ls := []) (.nil) (js := []) (by kernel_rfl) (ps := ps_lodgelaw28_made) (rs := rs_lodgelaw28_made) (Eq.trans (b := F_lodgelaw28_made N x.1.1 x.1.2.1 x.1.2.2.1 x.1.2.2.2.1 x.1.2.2.2.2.1 x.1.2.2.2.2.2.1 x.1.2.2.2.2.2.2.1 x.1.2.2.2.2.2.2.2.1 x.1.2.2.2.2.2.2.2.2.1 x.1.2.2.2.2.2.2.2.2.2.1 x.2.1 x.2.2.1 x.2.2.2.1) (by kernel_rfl) h)

/-! (*lodge/cell.reader).one -/

abbrev ps_cell_reader_one : List Ty := [(.hd 9)]
abbrev rs_cell_reader_one : List Slot := [.data (.int .i64)]
abbrev cs_cell_reader_one (N : Nat) : List (CallSpec E) := []
noncomputable abbrev b_cell_reader_one : Code := ((Go.Proofs.Tryz.f77.body).getD .skip)

def F_cell_reader_one (N : Nat) (T9 : List (List Int × (Er × Unit))) (r_0 : Option Nat) : Option ((List (List Int × (Er × Unit)) × Unit) × (Int × Unit)) :=
  cond (@Option.isSome Nat r_0)
    (
    cond (Go.Eng.Er.isNil (((List.getD T9 (@Option.getD Nat r_0 (0 : Nat)) (([] : List Int), (Go.Eng.Er.nil, ())))).2).1)
      (
      cond (@Option.isSome Nat r_0)
        (
        cond (decide ((Nat.cast (List.length ((List.getD T9 (@Option.getD Nat r_0 (0 : Nat)) (([] : List Int), (Go.Eng.Er.nil, ())))).1) : Int) = (0 : Int)))
          (
          cond (@Option.isSome Nat r_0)
            (
            cond (@Option.isSome Nat r_0)
              (
              cond (Bool.not (Go.Eng.Er.isNil (((List.getD (List.set T9 (@Option.getD Nat r_0 (0 : Nat)) (((List.getD T9 (@Option.getD Nat r_0 (0 : Nat)) (([] : List Int), (Go.Eng.Er.nil, ())))).1, ((Go.Eng.Er.s ErrEnd), (((List.getD T9 (@Option.getD Nat r_0 (0 : Nat)) (([] : List Int), (Go.Eng.Er.nil, ())))).2).2))) (@Option.getD Nat r_0 (0 : Nat)) (([] : List Int), (Go.Eng.Er.nil, ())))).2).1))
                (
                some (((List.set T9 (@Option.getD Nat r_0 (0 : Nat)) (((List.getD T9 (@Option.getD Nat r_0 (0 : Nat)) (([] : List Int), (Go.Eng.Er.nil, ())))).1, ((Go.Eng.Er.s ErrEnd), (((List.getD T9 (@Option.getD Nat r_0 (0 : Nat)) (([] : List Int), (Go.Eng.Er.nil, ())))).2).2))), ()), ((0 : Int), ())))
                (
                cond (@Option.isSome Nat r_0)
                  (
                  cond (decide (0 < (List.length ((List.getD (List.set T9 (@Option.getD Nat r_0 (0 : Nat)) (((List.getD T9 (@Option.getD Nat r_0 (0 : Nat)) (([] : List Int), (Go.Eng.Er.nil, ())))).1, ((Go.Eng.Er.s ErrEnd), (((List.getD T9 (@Option.getD Nat r_0 (0 : Nat)) (([] : List Int), (Go.Eng.Er.nil, ())))).2).2))) (@Option.getD Nat r_0 (0 : Nat)) (([] : List Int), (Go.Eng.Er.nil, ())))).1)))
                    (
                    cond (@Option.isSome Nat r_0)
                      (
                      cond (decide (1 ≤ (List.length ((List.getD (List.set T9 (@Option.getD Nat r_0 (0 : Nat)) (((List.getD T9 (@Option.getD Nat r_0 (0 : Nat)) (([] : List Int), (Go.Eng.Er.nil, ())))).1, ((Go.Eng.Er.s ErrEnd), (((List.getD T9 (@Option.getD Nat r_0 (0 : Nat)) (([] : List Int), (Go.Eng.Er.nil, ())))).2).2))) (@Option.getD Nat r_0 (0 : Nat)) (([] : List Int), (Go.Eng.Er.nil, ())))).1)))
                        (
                        cond (decide ((List.length ((List.getD (List.set T9 (@Option.getD Nat r_0 (0 : Nat)) (((List.getD T9 (@Option.getD Nat r_0 (0 : Nat)) (([] : List Int), (Go.Eng.Er.nil, ())))).1, ((Go.Eng.Er.s ErrEnd), (((List.getD T9 (@Option.getD Nat r_0 (0 : Nat)) (([] : List Int), (Go.Eng.Er.nil, ())))).2).2))) (@Option.getD Nat r_0 (0 : Nat)) (([] : List Int), (Go.Eng.Er.nil, ())))).1) ≤ (List.length ((List.getD (List.set T9 (@Option.getD Nat r_0 (0 : Nat)) (((List.getD T9 (@Option.getD Nat r_0 (0 : Nat)) (([] : List Int), (Go.Eng.Er.nil, ())))).1, ((Go.Eng.Er.s ErrEnd), (((List.getD T9 (@Option.getD Nat r_0 (0 : Nat)) (([] : List Int), (Go.Eng.Er.nil, ())))).2).2))) (@Option.getD Nat r_0 (0 : Nat)) (([] : List Int), (Go.Eng.Er.nil, ())))).1)))
                          (
                          cond (@Option.isSome Nat r_0)
                            (
                            some (((List.set (List.set T9 (@Option.getD Nat r_0 (0 : Nat)) (((List.getD T9 (@Option.getD Nat r_0 (0 : Nat)) (([] : List Int), (Go.Eng.Er.nil, ())))).1, ((Go.Eng.Er.s ErrEnd), (((List.getD T9 (@Option.getD Nat r_0 (0 : Nat)) (([] : List Int), (Go.Eng.Er.nil, ())))).2).2))) (@Option.getD Nat r_0 (0 : Nat)) ((List.take ((List.length ((List.getD (List.set T9 (@Option.getD Nat r_0 (0 : Nat)) (((List.getD T9 (@Option.getD Nat r_0 (0 : Nat)) (([] : List Int), (Go.Eng.Er.nil, ())))).1, ((Go.Eng.Er.s ErrEnd), (((List.getD T9 (@Option.getD Nat r_0 (0 : Nat)) (([] : List Int), (Go.Eng.Er.nil, ())))).2).2))) (@Option.getD Nat r_0 (0 : Nat)) (([] : List Int), (Go.Eng.Er.nil, ())))).1) - 1) (List.drop 1 ((List.getD (List.set T9 (@Option.getD Nat r_0 (0 : Nat)) (((List.getD T9 (@Option.getD Nat r_0 (0 : Nat)) (([] : List Int), (Go.Eng.Er.nil, ())))).1, ((Go.Eng.Er.s ErrEnd), (((List.getD T9 (@Option.getD Nat r_0 (0 : Nat)) (([] : List Int), (Go.Eng.Er.nil, ())))).2).2))) (@Option.getD Nat r_0 (0 : Nat)) (([] : List Int), (Go.Eng.Er.nil, ())))).1)), ((List.getD (List.set T9 (@Option.getD Nat r_0 (0 : Nat)) (((List.getD T9 (@Option.getD Nat r_0 (0 : Nat)) (([] : List Int), (Go.Eng.Er.nil, ())))).1, ((Go.Eng.Er.s ErrEnd), (((List.getD T9 (@Option.getD Nat r_0 (0 : Nat)) (([] : List Int), (Go.Eng.Er.nil, ())))).2).2))) (@Option.getD Nat r_0 (0 : Nat)) (([] : List Int), (Go.Eng.Er.nil, ())))).2)), ()), ((wi64 (List.getD ((List.getD (List.set T9 (@Option.getD Nat r_0 (0 : Nat)) (((List.getD T9 (@Option.getD Nat r_0 (0 : Nat)) (([] : List Int), (Go.Eng.Er.nil, ())))).1, ((Go.Eng.Er.s ErrEnd), (((List.getD T9 (@Option.getD Nat r_0 (0 : Nat)) (([] : List Int), (Go.Eng.Er.nil, ())))).2).2))) (@Option.getD Nat r_0 (0 : Nat)) (([] : List Int), (Go.Eng.Er.nil, ())))).1 0 (0 : Int))), ())))
                            (
                            none))
                          (
                          none))
                        (
                        none))
                      (
                      none))
                    (
                    none))
                  (
                  none)))
              (
              none))
            (
            none))
          (
          cond (@Option.isSome Nat r_0)
            (
            cond (Bool.not (Go.Eng.Er.isNil (((List.getD T9 (@Option.getD Nat r_0 (0 : Nat)) (([] : List Int), (Go.Eng.Er.nil, ())))).2).1))
              (
              some ((T9, ()), ((0 : Int), ())))
              (
              cond (@Option.isSome Nat r_0)
                (
                cond (decide (0 < (List.length ((List.getD T9 (@Option.getD Nat r_0 (0 : Nat)) (([] : List Int), (Go.Eng.Er.nil, ())))).1)))
                  (
                  cond (@Option.isSome Nat r_0)
                    (
                    cond (decide (1 ≤ (List.length ((List.getD T9 (@Option.getD Nat r_0 (0 : Nat)) (([] : List Int), (Go.Eng.Er.nil, ())))).1)))
                      (
                      cond (decide ((List.length ((List.getD T9 (@Option.getD Nat r_0 (0 : Nat)) (([] : List Int), (Go.Eng.Er.nil, ())))).1) ≤ (List.length ((List.getD T9 (@Option.getD Nat r_0 (0 : Nat)) (([] : List Int), (Go.Eng.Er.nil, ())))).1)))
                        (
                        cond (@Option.isSome Nat r_0)
                          (
                          some (((List.set T9 (@Option.getD Nat r_0 (0 : Nat)) ((List.take ((List.length ((List.getD T9 (@Option.getD Nat r_0 (0 : Nat)) (([] : List Int), (Go.Eng.Er.nil, ())))).1) - 1) (List.drop 1 ((List.getD T9 (@Option.getD Nat r_0 (0 : Nat)) (([] : List Int), (Go.Eng.Er.nil, ())))).1)), ((List.getD T9 (@Option.getD Nat r_0 (0 : Nat)) (([] : List Int), (Go.Eng.Er.nil, ())))).2)), ()), ((wi64 (List.getD ((List.getD T9 (@Option.getD Nat r_0 (0 : Nat)) (([] : List Int), (Go.Eng.Er.nil, ())))).1 0 (0 : Int))), ())))
                          (
                          none))
                        (
                        none))
                      (
                      none))
                    (
                    none))
                  (
                  none))
                (
                none)))
            (
            none)))
        (
        none))
      (
      cond (@Option.isSome Nat r_0)
        (
        cond (Bool.not (Go.Eng.Er.isNil (((List.getD T9 (@Option.getD Nat r_0 (0 : Nat)) (([] : List Int), (Go.Eng.Er.nil, ())))).2).1))
          (
          some ((T9, ()), ((0 : Int), ())))
          (
          cond (@Option.isSome Nat r_0)
            (
            cond (decide (0 < (List.length ((List.getD T9 (@Option.getD Nat r_0 (0 : Nat)) (([] : List Int), (Go.Eng.Er.nil, ())))).1)))
              (
              cond (@Option.isSome Nat r_0)
                (
                cond (decide (1 ≤ (List.length ((List.getD T9 (@Option.getD Nat r_0 (0 : Nat)) (([] : List Int), (Go.Eng.Er.nil, ())))).1)))
                  (
                  cond (decide ((List.length ((List.getD T9 (@Option.getD Nat r_0 (0 : Nat)) (([] : List Int), (Go.Eng.Er.nil, ())))).1) ≤ (List.length ((List.getD T9 (@Option.getD Nat r_0 (0 : Nat)) (([] : List Int), (Go.Eng.Er.nil, ())))).1)))
                    (
                    cond (@Option.isSome Nat r_0)
                      (
                      some (((List.set T9 (@Option.getD Nat r_0 (0 : Nat)) ((List.take ((List.length ((List.getD T9 (@Option.getD Nat r_0 (0 : Nat)) (([] : List Int), (Go.Eng.Er.nil, ())))).1) - 1) (List.drop 1 ((List.getD T9 (@Option.getD Nat r_0 (0 : Nat)) (([] : List Int), (Go.Eng.Er.nil, ())))).1)), ((List.getD T9 (@Option.getD Nat r_0 (0 : Nat)) (([] : List Int), (Go.Eng.Er.nil, ())))).2)), ()), ((wi64 (List.getD ((List.getD T9 (@Option.getD Nat r_0 (0 : Nat)) (([] : List Int), (Go.Eng.Er.nil, ())))).1 0 (0 : Int))), ())))
                      (
                      none))
                    (
                    none))
                  (
                  none))
                (
                none))
              (
              none))
            (
            none)))
        (
        none)))
    (
    none)

abbrev c_cell_reader_one (N : Nat) : CallSpec E := ⟨77, ps_cell_reader_one, rs_cell_reader_one, fun x => F_cell_reader_one N x.1.1 x.2.1⟩

theorem cs_cell_reader_one_ok (S : Ini) (N : Nat) : CallsOK Go.Proofs.Tryz.prog E S (cs_cell_reader_one N) :=
  .nil
theorem F_cell_reader_one_ok (S : Ini) (N : Nat) : ∀ x y, (c_cell_reader_one N).g x = some y → FCon Go.Proofs.Tryz.prog E S 77 ps_cell_reader_one rs_cell_reader_one x y := by
  intro x y h
  exact fun_specJ E_ok mixed (cs_cell_reader_one_ok S N) (f := 77) (fi := ⟨b_cell_reader_one, 42, Go.Proofs.Tryz.f77.results.toList⟩) (by kernel_rfl) (ls := []) (.nil) (js := []) (by kernel_rfl) (ps := ps_cell_reader_one) (rs := rs_cell_reader_one) (Eq.trans (b := F_cell_reader_one N x.1.1 x.2.1) (by kernel_rfl) h)

/-! (*lodge/cell.reader).below -/

abbrev ps_cell_reader_below : List Ty := [(.hd 9), (.int .i64), .err]
abbrev rs_cell_reader_below : List Slot := [.data (.int .i64)]
abbrev cs_cell_reader_below (N : Nat) : List (CallSpec E) := [c_cell_reader_one N]
noncomputable abbrev b_cell_reader_below : Code := ((Go.Proofs.Tryz.f133.body).getD .skip)

def F_cell_reader_below (N : Nat) (T9 : List (List Int × (Er × Unit))) (r_0 : Option Nat) (most_1 : Int) (err_2 : Er) : Option ((List (List Int × (Er × Unit)) × Unit) × (Int × Unit)) :=
  Option.bind (F_cell_reader_one N T9 r_0) fun y0 =>
  cond (@Option.isSome Nat r_0)
    (
    cond (Go.Eng.Er.isNil (((List.getD ((y0).1).1 (@Option.getD Nat r_0 (0 : Nat)) (([] : List Int), (Go.Eng.Er.nil, ())))).2).1)
      (
      cond (decide (most_1 ≤ ((y0).2).1))
        (
        cond (@Option.isSome Nat r_0)
          (
          some (((List.set ((y0).1).1 (@Option.getD Nat r_0 (0 : Nat)) (((List.getD ((y0).1).1 (@Option.getD Nat r_0 (0 : Nat)) (([] : List Int), (Go.Eng.Er.nil, ())))).1, (err_2, (((List.getD ((y0).1).1 (@Option.getD Nat r_0 (0 : Nat)) (([] : List Int), (Go.Eng.Er.nil, ())))).2).2))), ()), (y0).2))
          (
          none))
        (
        some y0))
      (
      some y0))
    (
    none)

abbrev c_cell_reader_below (N : Nat) : CallSpec E := ⟨133, ps_cell_reader_below, rs_cell_reader_below, fun x => F_cell_reader_below N x.1.1 x.2.1 x.2.2.1 x.2.2.2.1⟩

theorem cs_cell_reader_below_ok (S : Ini) (N : Nat) : CallsOK Go.Proofs.Tryz.prog E S (cs_cell_reader_below N) :=
  .cons (F_cell_reader_one_ok S N) (.nil)
theorem F_cell_reader_below_ok (S : Ini) (N : Nat) : ∀ x y, (c_cell_reader_below N).g x = some y → FCon Go.Proofs.Tryz.prog E S 133 ps_cell_reader_below rs_cell_reader_below x y := by
  intro x y h
  exact fun_specJ E_ok mixed (cs_cell_reader_below_ok S N) (f := 133) (fi := ⟨b_cell_reader_below, 25, Go.Proofs.Tryz.f133.results.toList⟩) (by kernel_rfl) (ls := []) (.nil) (js := []) (by kernel_rfl) (ps := ps_cell_reader_below) (rs := rs_cell_reader_below) (Eq.trans (b := F_cell_reader_below N x.1.1 x.2.1 x.2.2.1 x.2.2.2.1) (by kernel_rfl) h)

/-! (*lodge/cell.reader).slot -/

abbrev ps_cell_reader_slot : List Ty := [(.hd 9)]
abbrev rs_cell_reader_slot : List Slot := [.data (.int .i64)]
abbrev cs_cell_reader_slot (N : Nat) : List (CallSpec E) := [c_cell_reader_below N]
noncomputable abbrev b_cell_reader_slot : Code := ((Go.Proofs.Tryz.f76.body).getD .skip)

def F_cell_reader_slot (N : Nat) (T9 : List (List Int × (Er × Unit))) (r_0 : Option Nat) : Option ((List (List Int × (Er × Unit)) × Unit) × (Int × Unit)) :=
  Option.bind (F_cell_reader_below N T9 r_0 (16 : Int) (Go.Eng.Er.s ErrRange)) fun y0 =>
  some y0

abbrev c_cell_reader_slot (N : Nat) : CallSpec E := ⟨76, ps_cell_reader_slot, rs_cell_reader_slot, fun x => F_cell_reader_slot N x.1.1 x.2.1⟩

theorem cs_cell_reader_slot_ok (S : Ini) (N : Nat) : CallsOK Go.Proofs.Tryz.prog E S (cs_cell_reader_slot N) :=
  .cons (F_cell_reader_below_ok S N) (.nil)
theorem F_cell_reader_slot_ok (S : Ini) (N : Nat) : ∀ x y, (c_cell_reader_slot N).g x = some y → FCon Go.Proofs.Tryz.prog E S 76 ps_cell_reader_slot rs_cell_reader_slot x y := by
  intro x y h
  exact fun_specJ E_ok mixed (cs_cell_reader_slot_ok S N) (f := 76) (fi := ⟨b_cell_reader_slot, 6, Go.Proofs.Tryz.f76.results.toList⟩) (by kernel_rfl) (ls := []) (.nil) (js := []) (by kernel_rfl) (ps := ps_cell_reader_slot) (rs := rs_cell_reader_slot) (Eq.trans (b := F_cell_reader_slot N x.1.1 x.2.1) (by kernel_rfl) h)

/-! lodge/shape.Valid -/

abbrev ps_shape_Valid : List Ty := [(.st (.pair (.sl (.int .i64)) .bool))]
abbrev rs_shape_Valid : List Slot := [.data .err]
abbrev cs_shape_Valid (N : Nat) : List (CallSpec E) := []
noncomputable abbrev b_shape_Valid : Code := ((Go.Proofs.Tryz.f61.body).getD .skip)

abbrev h_shape_Valid_0 : List Slot := [.dead, .box [.d (.st (.pair (.sl (.int .i64)) .bool))], .dead, .data (.int .i64), .dead, .dead, .dead, .dead, .dead, .dead, .dead, .dead, .dead, .dead, .data (.sl (.int .i64)), .data (.int .i64), .data (.int .i64), .dead, .dead, .dead, .dead, .dead, .dead, .dead, .dead, .dead, .dead, .dead, .dead, .dead, .dead, .dead, .dead, .dead, .dead, .dead, .dead, .dead, .dead, .dead, .dead, .dead]
abbrev e_shape_Valid_0 : List (AX × List Slot) := [(AX.exit 0, [.dead, .box [.d (.st (.pair (.sl (.int .i64)) .bool))], .dead, .data (.int .i64), .dead, .dead, .dead, .dead, .dead, .dead, .dead, .dead, .dead, .dead, .dead, .dead, .dead, .dead, .dead, .dead, .dead, .dead, .dead, .dead, .dead, .dead, .dead, .dead, .dead, .dead, .dead, .dead, .dead, .dead, .dead, .dead, .dead, .dead, .dead, .dead, .dead, .dead]), (AX.ret, [.dead, .dead, .data .err, .dead, .dead, .dead, .dead, .dead, .dead, .dead, .dead, .dead, .dead, .dead, .dead, .dead, .dead, .dead, .dead, .dead, .dead, .dead, .dead, .dead, .dead, .dead, .dead, .dead, .dead, .dead, .dead, .dead, .dead, .dead, .dead, .dead, .dead, .dead, .dead, .dead, .dead, .dead])]
def g_shape_Valid_0 (N : Nat) : Nat → ((List Int × Bool) × Unit) → Int → List Int → Int → Int → Option (Sum (Unit × (((List Int × Bool) × Unit) × (Int × Unit))) (Unit × (Er × Unit)))
  | 0, _, _, _, _, _ => none
  | n + 1, d_1, n_3, t_14, t_15, t_16 =>
    cond (decide (t_16 < t_15))
      (
      cond (decide ((0 : Int) ≤ t_16))
        (
        cond (decide ((Int.toNat t_16) < (List.length t_14)))
          (
          cond (decide ((List.getD t_14 (Int.toNat t_16) (0 : Int)) < (1 : Int)))
            (
            some (Sum.inr ((), ((Go.Eng.Er.s ErrRange), ()))))
            (
            cond (decide ((256 : Int) < (List.getD t_14 (Int.toNat t_16) (0 : Int))))
              (
              some (Sum.inr ((), ((Go.Eng.Er.s ErrRange), ()))))
              (
              (g_shape_Valid_0 N n d_1 n_3 t_14 t_15 (wi64 (t_16 + (1 : Int)))))))
          (
          none))
        (
        none))
      (
      some (Sum.inl ((), (d_1, (n_3, ())))))

abbrev h_shape_Valid_1 : List Slot := [.dead, .dead, .dead, .data (.int .i64), .dead, .dead, .dead, .dead, .dead, .dead, .dead, .dead, .dead, .dead, .dead, .dead, .dead, .dead, .dead, .dead, .dead, .dead, .dead, .dead, .dead, .dead, .dead, .dead, .dead, .data (.sl (.int .i64)), .data (.int .i64), .data (.int .i64), .dead, .dead, .dead, .dead, .dead, .dead, .dead, .dead, .dead, .dead]
abbrev e_shape_Valid_1 : List (AX × List Slot) := [(AX.exit 2, [.dead, .dead, .dead, .dead, .dead, .dead, .dead, .dead, .dead, .dead, .dead, .dead, .dead, .dead, .dead, .dead, .dead, .dead, .dead, .dead, .dead, .dead, .dead, .dead, .dead, .dead, .dead, .dead, .dead, .dead, .dead, .dead, .dead, .dead, .dead, .dead, .dead, .dead, .dead, .dead, .dead, .dead]), (AX.ret, [.dead, .dead, .data .err, .dead, .dead, .dead, .dead, .dead, .dead, .dead, .dead, .dead, .dead, .dead, .dead, .dead, .dead, .dead, .dead, .dead, .dead, .dead, .dead, .dead, .dead, .dead, .dead, .dead, .dead, .dead, .dead, .dead, .dead, .dead, .dead, .dead, .dead, .dead, .dead, .dead, .dead, .dead])]
def g_shape_Valid_1 (N : Nat) : Nat → Int → List Int → Int → Int → Option (Sum (Unit × Unit) (Unit × (Er × Unit)))
  | 0, _, _, _, _ => none
  | n + 1, n_3, t_29, t_30, t_31 =>
    cond (decide (t_31 < t_30))
      (
      cond (decide ((0 : Int) ≤ t_31))
        (
        cond (decide ((Int.toNat t_31) < (List.length t_29)))
          (
          cond (decide ((16384 : Int) < (wi64 (n_3 * (List.getD t_29 (Int.toNat t_31) (0 : Int))))))
            (
            some (Sum.inr ((), ((Go.Eng.Er.s ErrMany), ()))))
            (
            (g_shape_Valid_1 N n (wi64 (n_3 * (List.getD t_29 (Int.toNat t_31) (0 : Int)))) t_29 t_30 (wi64 (t_31 + (1 : Int))))))
          (
          none))
        (
        none))
      (
      some (Sum.inl ((), ())))

def F_shape_Valid (N : Nat) (d_0 : (List Int × Bool)) : Option (Unit × (Er × Unit)) :=
  cond (decide ((4 : Int) < (Nat.cast (List.length (d_0).1) : Int)))
    (
    some ((), ((Go.Eng.Er.s ErrMany), ())))
    (
    Option.bind (g_shape_Valid_0 N N (d_0, ()) (1 : Int) (d_0).1 (Nat.cast (List.length (d_0).1) : Int) (0 : Int)) fun y0 =>
    Sum.elim (fun y1 =>
      Option.bind (g_shape_Valid_1 N N (((y1).2).2).1 ((((y1).2).1).1).1 (Nat.cast (List.length ((((y1).2).1).1).1) : Int) (0 : Int)) fun y2 =>
      Sum.elim (fun y3 =>
        some ((), (Go.Eng.Er.nil, ())))
        (fun y4 =>
        some ((), (y4).2)) y2)
      (fun y5 =>
      some ((), (y5).2)) y0)

abbrev c_shape_Valid (N : Nat) : CallSpec E := ⟨61, ps_shape_Valid, rs_shape_Valid, fun x => F_shape_Valid N x.2.1⟩
abbrev l_shape_Valid_1 (N : Nat) : LoopSpec E [] := ⟨1, h_shape_Valid_1, e_shape_Valid_1, fun x => g_shape_Valid_1 N N x.2.1 x.2.2.1 x.2.2.2.1 x.2.2.2.2.1⟩
abbrev l_shape_Valid_0 (N : Nat) : LoopSpec E [] := ⟨0, h_shape_Valid_0, e_shape_Valid_0, fun x => g_shape_Valid_0 N N x.2.1 x.2.2.1 x.2.2.2.1 x.2.2.2.2.1 x.2.2.2.2.2.1⟩

theorem cs_shape_Valid_ok (S : Ini) (N : Nat) : CallsOK Go.Proofs.Tryz.prog E S (cs_shape_Valid N) :=
  .nil
noncomputable abbrev b_shape_Valid_1 : Code := (loopsOf b_shape_Valid).getD 1 .skip
theorem g_shape_Valid_1_ok (S : Ini) (N : Nat) : ∀ n x y, (fun (x : StV E [] h_shape_Valid_1) => g_shape_Valid_1 N n x.2.1 x.2.2.1 x.2.2.2.1 x.2.2.2.2.1) x = some y → LoopCon Go.Proofs.Tryz.prog E S b_shape_Valid_1 (encSlots E [] h_shape_Valid_1 x) (encEx E [] e_shape_Valid_1 y).1 (encEx E [] e_shape_Valid_1 y).2 :=
  loop_specJ E_ok mixed (E_ok.ks 61) (cs_shape_Valid_ok S N) (all := loopsOf b_shape_Valid) (ls := []) (.nil) (js := []) (i := 1) (by kernel_rfl) (inner_of (by kernel_rfl)) (head := h_shape_Valid_1) (ex := e_shape_Valid_1) (fun n (x : StV E [] h_shape_Valid_1) => g_shape_Valid_1 N n x.2.1 x.2.2.1 x.2.2.2.1 x.2.2.2.2.1) (fun _ => rfl) (fun n x => by kernel_rfl)
noncomputable abbrev b_shape_Valid_0 : Code := (loopsOf b_shape_Valid).getD 0 .skip
theorem g_shape_Valid_0_ok (S : Ini) (N : Nat) : ∀ n x y, (fun (x : StV E [] h_shape_Valid_0) => g_shape_Valid_0 N n x.2.1 x.2.2.1 x.2.2.2.1 x.2.2.2.2.1 x.2.2.2.2.2.1) x = some y → LoopCon Go.Proofs.Tryz.prog E S b_shape_Valid_0 (encSlots E [] h_shape_Valid_0 x) (encEx E [] e_shape_Valid_0 y).1 (encEx E [] e_shape_Valid_0 y).2 :=
  loop_specJ E_ok mixed (E_ok.ks 61) (cs_shape_Valid_ok S N) (all := loopsOf b_shape_Valid) (ls := []) (.nil) (js := []) (i := 0) (by kernel_rfl) (inner_of (by kernel_rfl)) (head := h_shape_Valid_0) (ex := e_shape_Valid_0) (fun n (x : StV E [] h_shape_Valid_0) => g_shape_Valid_0 N n x.2.1 x.2.2.1 x.2.2.2.1 x.2.2.2.2.1 x.2.2.2.2.2.1) (fun _ => rfl) (fun n x => by kernel_rfl)
theorem F_shape_Valid_ok (S : Ini) (N : Nat) : ∀ x y, (c_shape_Valid N).g x = some y → FCon Go.Proofs.Tryz.prog E S 61 ps_shape_Valid rs_shape_Valid x y := by
  intro x y h
  exact fun_specJ E_ok mixed (cs_shape_Valid_ok S N) (f := 61) (fi := ⟨b_shape_Valid, 42, Go.Proofs.Tryz.f61.results.toList⟩) (by kernel_rfl) (ls := [l_shape_Valid_1 N, l_shape_Valid_0 N]) (.cons (by kernel_rfl) (g_shape_Valid_1_ok S N N) (.cons (by kernel_rfl) (g_shape_Valid_0_ok S N N) (.nil))) (js := []) (by kernel_rfl) (ps := ps_shape_Valid) (rs := rs_shape_Valid) (Eq.trans (b := F_shape_Valid N x.2.1) (by kernel_rfl) h)

/-! lodge/shape.fair -/

abbrev ps_shape_fair : List Ty := [(.sl (.int .i64))]
abbrev rs_shape_fair : List Slot := [.data .bool]
abbrev cs_shape_fair (N : Nat) : List (CallSpec E) := [c_shape_Valid N]
noncomputable abbrev b_shape_fair : Code := ((Go.Proofs.Tryz.f114.body).getD .skip)

def F_shape_fair (N : Nat) (shape_0 : List Int) : Option (Unit × (Bool × Unit)) :=
  Option.bind (F_shape_Valid N (shape_0, false)) fun y0 =>
  some ((), ((Go.Eng.Er.isNil ((y0).2).1), ()))

abbrev c_shape_fair (N : Nat) : CallSpec E := ⟨114, ps_shape_fair, rs_shape_fair, fun x => F_shape_fair N x.2.1⟩

theorem cs_shape_fair_ok (S : Ini) (N : Nat) : CallsOK Go.Proofs.Tryz.prog E S (cs_shape_fair N) :=
  .cons (F_shape_Valid_ok S N) (.nil)
theorem F_shape_fair_ok (S : Ini) (N : Nat) : ∀ x y, (c_shape_fair N).g x = some y → FCon Go.Proofs.Tryz.prog E S 114 ps_shape_fair rs_shape_fair x y := by
  intro x y h
  exact fun_specJ E_ok mixed (cs_shape_fair_ok S N) (f := 114) (fi := ⟨b_shape_fair, 7, Go.Proofs.Tryz.f114.results.toList⟩) (by kernel_rfl) (ls := []) (.nil) (js := []) (by kernel_rfl) (ps := ps_shape_fair) (rs := rs_shape_fair) (Eq.trans (b := F_shape_fair N x.2.1) (by kernel_rfl) h)

/-! lodge/shape.Elems -/

abbrev ps_shape_Elems : List Ty := [(.sl (.int .i64))]
abbrev rs_shape_Elems : List Slot := [.data (.int .i64)]
abbrev cs_shape_Elems (N : Nat) : List (CallSpec E) := [c_shape_fair N]
noncomputable abbrev b_shape_Elems : Code := ((Go.Proofs.Tryz.f62.body).getD .skip)

abbrev h_shape_Elems_0 : List Slot := [.dead, .dead, .dead, .data (.int .i64), .dead, .dead, .dead, .dead, .dead, .data (.sl (.int .i64)), .data (.int .i64), .data (.int .i64), .dead, .dead, .dead, .dead, .dead, .dead, .dead, .dead]
abbrev e_shape_Elems_0 : List (AX × List Slot) := [(AX.exit 0, [.dead, .dead, .dead, .data (.int .i64), .dead, .dead, .dead, .dead, .dead, .dead, .dead, .dead, .dead, .dead, .dead, .dead, .dead, .dead, .dead, .dead])]
def g_shape_Elems_0 (N : Nat) : Nat → Int → List Int → Int → Int → Option (Unit × (Int × Unit))
  | 0, _, _, _, _ => none
  | n + 1, n_3, t_9, t_10, t_11 =>
    cond (decide (t_11 < t_10))
      (
      cond (decide ((0 : Int) ≤ t_11))
        (
        cond (decide ((Int.toNat t_11) < (List.length t_9)))
          (
          (g_shape_Elems_0 N n (wi64 (n_3 * (List.getD t_9 (Int.toNat t_11) (0 : Int)))) t_9 t_10 (wi64 (t_11 + (1 : Int)))))
          (
          none))
        (
        none))
      (
      some ((), (n_3, ())))

def F_shape_Elems (N : Nat) (shape_0 : List Int) : Option (Unit × (Int × Unit)) :=
  Option.bind (F_shape_fair N shape_0) fun y0 =>
  cond (Bool.not ((y0).2).1)
    (
    some ((), ((0 : Int), ())))
    (
    Option.bind (g_shape_Elems_0 N N (1 : Int) shape_0 (Nat.cast (List.length shape_0) : Int) (0 : Int)) fun y1 =>
    some ((), (y1).2))

abbrev c_shape_Elems (N : Nat) : CallSpec E := ⟨62, ps_shape_Elems, rs_shape_Elems, fun x => F_shape_Elems N x.2.1⟩
abbrev l_shape_Elems_0 (N : Nat) : LoopSpec E [] := ⟨0, h_shape_Elems_0, e_shape_Elems_0, fun x => g_shape_Elems_0 N N x.2.1 x.2.2.1 x.2.2.2.1 x.2.2.2.2.1⟩

theorem cs_shape_Elems_ok (S : Ini) (N : Nat) : CallsOK Go.Proofs.Tryz.prog E S (cs_shape_Elems N) :=
  .cons (F_shape_fair_ok S N) (.nil)
noncomputable abbrev b_shape_Elems_0 : Code := (loopsOf b_shape_Elems).getD 0 .skip
theorem g_shape_Elems_0_ok (S : Ini) (N : Nat) : ∀ n x y, (fun (x : StV E [] h_shape_Elems_0) => g_shape_Elems_0 N n x.2.1 x.2.2.1 x.2.2.2.1 x.2.2.2.2.1) x = some y → LoopCon Go.Proofs.Tryz.prog E S b_shape_Elems_0 (encSlots E [] h_shape_Elems_0 x) (encEx E [] e_shape_Elems_0 y).1 (encEx E [] e_shape_Elems_0 y).2 :=
  loop_specJ E_ok mixed (E_ok.ks 62) (cs_shape_Elems_ok S N) (all := loopsOf b_shape_Elems) (ls := []) (.nil) (js := []) (i := 0) (by kernel_rfl) (inner_of (by kernel_rfl)) (head := h_shape_Elems_0) (ex := e_shape_Elems_0) (fun n (x : StV E [] h_shape_Elems_0) => g_shape_Elems_0 N n x.2.1 x.2.2.1 x.2.2.2.1 x.2.2.2.2.1) (fun _ => rfl) (fun n x => by kernel_rfl)
theorem F_shape_Elems_ok (S : Ini) (N : Nat) : ∀ x y, (c_shape_Elems N).g x = some y → FCon Go.Proofs.Tryz.prog E S 62 ps_shape_Elems rs_shape_Elems x y := by
  intro x y h
  exact fun_specJ E_ok mixed (cs_shape_Elems_ok S N) (f := 62) (fi := ⟨b_shape_Elems, 20, Go.Proofs.Tryz.f62.results.toList⟩) (by kernel_rfl) (ls := [l_shape_Elems_0 N]) (.cons (by kernel_rfl) (g_shape_Elems_0_ok S N N) (.nil)) (js := []) (by kernel_rfl) (ps := ps_shape_Elems) (rs := rs_shape_Elems) (Eq.trans (b := F_shape_Elems N x.2.1) (by kernel_rfl) h)

/-! lodge/shape.Bytes -/

abbrev ps_shape_Bytes : List Ty := [(.st (.pair (.sl (.int .i64)) .bool))]
abbrev rs_shape_Bytes : List Slot := [.data (.int .i64)]
abbrev cs_shape_Bytes (N : Nat) : List (CallSpec E) := [c_shape_Elems N]
noncomputable abbrev b_shape_Bytes : Code := ((Go.Proofs.Tryz.f64.body).getD .skip)

def F_shape_Bytes (N : Nat) (d_0 : (List Int × Bool)) : Option (Unit × (Int × Unit)) :=
  cond (d_0).2
    (
    Option.bind (F_shape_Elems N (d_0).1) fun y0 =>
    some ((), ((wi64 ((4 : Int) * ((y0).2).1)), ())))
    (
    Option.bind (F_shape_Elems N (d_0).1) fun y1 =>
    some ((), (y1).2))

abbrev c_shape_Bytes (N : Nat) : CallSpec E := ⟨64, ps_shape_Bytes, rs_shape_Bytes, fun x => F_shape_Bytes N x.2.1⟩

theorem cs_shape_Bytes_ok (S : Ini) (N : Nat) : CallsOK Go.Proofs.Tryz.prog E S (cs_shape_Bytes N) :=
  .cons (F_shape_Elems_ok S N) (.nil)
theorem F_shape_Bytes_ok (S : Ini) (N : Nat) : ∀ x y, (c_shape_Bytes N).g x = some y → FCon Go.Proofs.Tryz.prog E S 64 ps_shape_Bytes rs_shape_Bytes x y := by
  intro x y h
  exact fun_specJ E_ok mixed (cs_shape_Bytes_ok S N) (f := 64) (fi := ⟨b_shape_Bytes, 12, Go.Proofs.Tryz.f64.results.toList⟩) (by kernel_rfl) (ls := []) (.nil) (js := []) (by kernel_rfl) (ps := ps_shape_Bytes) (rs := rs_shape_Bytes) (Eq.trans (b := F_shape_Bytes N x.2.1) (by kernel_rfl) h)

/-! slices.Clone[[]int,int] -/

abbrev ps_slices_Clone_int : List Ty := [(.sl (.int .i64))]
abbrev rs_slices_Clone_int : List Slot := [.sl (.int .i64)]
abbrev cs_slices_Clone_int (N : Nat) : List (CallSpec E) := []
noncomputable abbrev b_slices_Clone_int : Code := ((Go.Proofs.Tryz.f89.body).getD .skip)

def F_slices_Clone_int (N : Nat) (s_0 : List Int) : Option (Unit × (List Int × Unit)) :=
  cond (decide ((((0 : Nat) + (List.length s_0)) * (8 + (1 : Nat))) ≤ Go.Eng.most))
    (
    cond (decide (((0 : Nat) + (List.length s_0)) = (List.length (([] : List Int) ++ s_0))))
      (
      some ((), ((([] : List Int) ++ s_0), ())))
      (
      none))
    (
    none)

abbrev c_slices_Clone_int (N : Nat) : CallSpec E := ⟨89, ps_slices_Clone_int, rs_slices_Clone_int, fun x => F_slices_Clone_int N x.2.1⟩

theorem cs_slices_Clone_int_ok (S : Ini) (N : Nat) : CallsOK Go.Proofs.Tryz.prog E S (cs_slices_Clone_int N) :=
  .nil
theorem F_slices_Clone_int_ok (S : Ini) (N : Nat) : ∀ x y, (c_slices_Clone_int N).g x = some y → FCon Go.Proofs.Tryz.prog E S 89 ps_slices_Clone_int rs_slices_Clone_int x y := by
  intro x y h
  exact nil_spec E_ok mixed (f := 89) (fi := ⟨b_slices_Clone_int, 8, Go.Proofs.Tryz.f89.results.toList⟩) (by kernel_rfl) (by kernel_rfl) (t := (.int .i64)) (T := x.1) (l := x.2.1) (rs := rs_slices_Clone_int) (y := y) (Eq.trans (b := F_slices_Clone_int N x.2.1) (by kernel_rfl) h) (fun hl => by
    have h' : F_slices_Clone_int N x.2.1 = some y := h
    rw [hl] at h'
    exact (show funJKA E [] [] [] [] ⟨b_slices_Clone_int, 8, Go.Proofs.Tryz.f89.results.toList⟩ [.v (.slice none 0 0)] (encTabs E.kinds [] x.1) rs_slices_Clone_int = some (x.1, ([], ())) by kernel_rfl).trans ((show F_slices_Clone_int N  [] = some (x.1, ([], ())) by kernel_rfl).symm.trans h'))

/-! lodge/shape.Clone -/

abbrev ps_shape_Clone : List Ty := [(.st (.pair (.sl (.int .i64)) .bool))]
abbrev rs_shape_Clone : List Slot := [.ag [.sl (.int .i64), .d .bool]]
abbrev cs_shape_Clone (N : Nat) : List (CallSpec E) := [c_slices_Clone_int N]
noncomputable abbrev b_shape_Clone : Code := ((Go.Proofs.Tryz.f88.body).getD .skip)

def F_shape_Clone (N : Nat) (d_0 : (List Int × Bool)) : Option (Unit × ((List Int × (Bool × Unit)) × Unit)) :=
  Option.bind (F_slices_Clone_int N (d_0).1) fun y0 =>
  cond (decide ((List.length ((y0).2).1) = (List.length ((y0).2).1)))
    (
    some ((), ((((y0).2).1, ((d_0).2, ())), ())))
    (
    none)

abbrev c_shape_Clone (N : Nat) : CallSpec E := ⟨88, ps_shape_Clone, rs_shape_Clone, fun x => F_shape_Clone N x.2.1⟩

theorem cs_shape_Clone_ok (S : Ini) (N : Nat) : CallsOK Go.Proofs.Tryz.prog E S (cs_shape_Clone N) :=
  .cons (F_slices_Clone_int_ok S N) (.nil)
theorem F_shape_Clone_ok (S : Ini) (N : Nat) : ∀ x y, (c_shape_Clone N).g x = some y → FCon Go.Proofs.Tryz.prog E S 88 ps_shape_Clone rs_shape_Clone x y := by
  intro x y h
  exact fun_specJ E_ok mixed (cs_shape_Clone_ok S N) (f := 88) (fi := ⟨b_shape_Clone, 9, Go.Proofs.Tryz.f88.results.toList⟩) (by kernel_rfl) (ls := []) (.nil) (js := []) (by kernel_rfl) (ps := ps_shape_Clone) (rs := rs_shape_Clone) (Eq.trans (b := F_shape_Clone N x.2.1) (by kernel_rfl) h)

/-! lodge/tens.Zero -/

abbrev ps_tens_Zero : List Ty := [(.st (.pair (.sl (.int .i64)) .bool))]
abbrev rs_tens_Zero : List Slot := [.ag [.sl (.int .i64), .d .bool, .sl (.int .i64)], .data .err]
abbrev cs_tens_Zero (N : Nat) : List (CallSpec E) := [c_shape_Valid N, c_shape_Elems N, c_shape_Clone N]
noncomputable abbrev b_tens_Zero : Code := ((Go.Proofs.Tryz.f149.body).getD .skip)

def F_tens_Zero (N : Nat) (d_0 : (List Int × Bool)) : Option (Unit × ((List Int × (Bool × (List Int × Unit))) × (Er × Unit))) :=
  Option.bind (F_shape_Valid N d_0) fun y0 =>
  cond (Bool.not (Go.Eng.Er.isNil ((y0).2).1))
    (
    some ((), ((([] : List Int), (false, (([] : List Int), ()))), (y0).2)))
    (
    Option.bind (F_shape_Clone N d_0) fun y1 =>
    Option.bind (F_shape_Elems N (d_0).1) fun y2 =>
    cond (decide ((0 : Int) ≤ ((y2).2).1))
      (
      cond (decide (((y2).2).1 ≤ ((y2).2).1))
        (
        cond (decide ((((y2).2).1 * ((Nat.cast 8 : Int) + (1 : Int))) ≤ (Nat.cast Go.Eng.most : Int)))
          (
          cond (decide ((List.length (((y1).2).1).1) = (List.length (((y1).2).1).1)))
            (
            cond (decide ((Int.toNat ((y2).2).1) = (List.length (List.replicate (Int.toNat ((y2).2).1) (0 : Int)))))
              (
              some ((), (((((y1).2).1).1, (((((y1).2).1).2).1, ((List.replicate (Int.toNat ((y2).2).1) (0 : Int)), ()))), (Go.Eng.Er.nil, ()))))
              (
              none))
            (
            none))
          (
          none))
        (
        none))
      (
      none))

abbrev c_tens_Zero (N : Nat) : CallSpec E := ⟨149, ps_tens_Zero, rs_tens_Zero, fun x => F_tens_Zero N x.2.1⟩

theorem cs_tens_Zero_ok (S : Ini) (N : Nat) : CallsOK Go.Proofs.Tryz.prog E S (cs_tens_Zero N) :=
  .cons (F_shape_Valid_ok S N) (.cons (F_shape_Elems_ok S N) (.cons (F_shape_Clone_ok S N) (.nil)))
theorem F_tens_Zero_ok (S : Ini) (N : Nat) : ∀ x y, (c_tens_Zero N).g x = some y → FCon Go.Proofs.Tryz.prog E S 149 ps_tens_Zero rs_tens_Zero x y := by
  intro x y h
  exact fun_specJ E_ok mixed (cs_tens_Zero_ok S N) (f := 149) (fi := ⟨b_tens_Zero, 18, Go.Proofs.Tryz.f149.results.toList⟩) (by kernel_rfl) (ls := []) (.nil) (js := []) (by kernel_rfl) (ps := ps_tens_Zero) (rs := rs_tens_Zero) (Eq.trans (b := F_tens_Zero N x.2.1) (by kernel_rfl) h)


end Go.Proofs.YtpekhdbkekiblaaGreatDoor.Lx
