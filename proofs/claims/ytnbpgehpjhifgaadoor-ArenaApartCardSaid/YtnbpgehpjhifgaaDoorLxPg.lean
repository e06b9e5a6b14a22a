/-
  Texts of the proof, one behind the other.
-/
import Derived.Test.YtnbpgehpjhifgaaDoorLxPf

/-
  The functions of the seat's program, as plain functions.
-/
namespace Go.Proofs.YtnbpgehpjhifgaaDoor.Lx
open Go Go.Eng Go.Proofs
set_option maxRecDepth 100000

/-! lodge/arena.New -/

abbrev ps_arena_New : List Ty := [(.int .i64)]
abbrev rs_arena_New : List Slot := [.data (.hd 0), .data .err]
abbrev cs_arena_New (N : Nat) : List (CallSpec E) := []
noncomputable abbrev b_arena_New : Code := (Go.Proofs.Tryd.f9.body).getD .skip

def F_arena_New (N : Nat) (T0 : List (List Int × (List (Option Nat) × Unit))) (T1 : List (Int × (Int × (Int × (List ((Int × Int)) × Unit))))) (size_0 : Int) : Option ((List (List Int × (List (Option Nat) × Unit)) × (List (Int × (Int × (Int × (List ((Int × Int)) × Unit)))) × Unit)) × (Option Nat × (Er × Unit))) :=
  cond (decide (size_0 < (1 : Int)))
    (
    some ((T0, (T1, ())), ((@Option.none Nat), ((Go.Eng.Er.s ErrRange), ()))))
    (
    cond (decide ((1048576 : Int) < size_0))
      (
      some ((T0, (T1, ())), ((@Option.none Nat), ((Go.Eng.Er.s ErrRange), ()))))
      (
      cond (decide ((0 : Int) ≤ size_0))
        (
        cond (decide (size_0 ≤ size_0))
          (
          cond (decide ((size_0 * ((Nat.cast 1 : Int) + (1 : Int))) ≤ (Nat.cast Go.Eng.most : Int)))
            (
            cond (decide (((0 : Nat) + (Int.toNat size_0)) ≤ (List.length (List.replicate (Int.toNat size_0) (0 : Int)))))
              (
              some (((T0 ++ (((List.take (Int.toNat size_0) (List.replicate (Int.toNat size_0) (0 : Int))), (([] : List (Option Nat)), ())) :: ([] : List ((List Int) × ((List (Option Nat)) × PUnit))))), (T1, ())), ((@Option.some Nat (List.length T0)), (Go.Eng.Er.nil, ()))))
              (
              none))
            (
            none))
          (
          none))
        (
        none)))

abbrev c_arena_New (N : Nat) : CallSpec E := ⟨9, ps_arena_New, rs_arena_New, fun x => F_arena_New N x.1.1 x.1.2.1 x.2.1⟩

theorem cs_arena_New_ok (S : Ini) (N : Nat) : CallsOK Go.Proofs.Tryd.prog E S (cs_arena_New N) :=
  .nil
theorem F_arena_New_ok (S : Ini) (N : Nat) : ∀ x y, (c_arena_New N).g x = some y → FCon Go.Proofs.Tryd.prog E S 9 ps_arena_New rs_arena_New x y := by
  intro x y h
  exact fun_specJ E_ok mixed (cs_arena_New_ok S N) (f := 9) (fi := ⟨b_arena_New, 15, Go.Proofs.Tryd.f9.results.toList⟩) (by kernel_rfl) (ls := []) (.nil) (js := []) (by kernel_rfl) (ps := ps_arena_New) (rs := rs_arena_New) (Eq.trans (b := F_arena_New N x.1.1 x.1.2.1 x.2.1) (by kernel_rfl) h)

/-! (*lodge/arena.Arena).find -/

abbrev ps_arena_Arena_find : List Ty := [(.hd 0), (.int .i64)]
abbrev rs_arena_Arena_find : List Slot := [.data (.hd 1)]
abbrev cs_arena_Arena_find (N : Nat) : List (CallSpec E) := []
noncomputable abbrev b_arena_Arena_find : Code := (Go.Proofs.Tryd.f22.body).getD .skip

abbrev h_arena_Arena_find_0 : List Slot := [.dead, .data (.int .i64), .dead, .dead, .dead, .dead, .dead, .dead, .dead, .dead, .bor (.hd 1) 0 2, .data (.int .i64), .data (.int .i64), .dead, .dead, .dead, .dead, .dead, .dead, .dead, .dead, .dead, .dead, .dead, .dead]
abbrev e_arena_Arena_find_0 : List (AX × List Slot) := [(AX.exit 0, [.dead, .dead, .dead, .dead, .dead, .dead, .dead, .dead, .dead, .dead, .dead, .dead, .dead, .dead, .dead, .dead, .dead, .dead, .dead, .dead, .dead, .dead, .dead, .dead, .dead]), (AX.ret, [.dead, .dead, .dead, .dead, .data (.hd 1), .dead, .dead, .dead, .dead, .dead, .dead, .dead, .dead, .dead, .dead, .dead, .dead, .dead, .dead, .dead, .dead, .dead, .dead, .dead, .dead])]
def g_arena_Arena_find_0 (N : Nat) : Nat → List (List Int × (List (Option Nat) × Unit)) → List (Int × (Int × (Int × (List ((Int × Int)) × Unit)))) → Int → (Nat × (Nat × Nat)) → Int → Int → Option (Sum ((List (List Int × (List (Option Nat) × Unit)) × (List (Int × (Int × (Int × (List ((Int × Int)) × Unit)))) × Unit)) × Unit) ((List (List Int × (List (Option Nat) × Unit)) × (List (Int × (Int × (Int × (List ((Int × Int)) × Unit)))) × Unit)) × (Option Nat × Unit)))
  | 0, _, _, _, _, _, _ => none
  | n + 1, T0, T1, id_1, t_10, t_11, t_12 =>
    cond (decide (t_12 < t_11))
      (
      cond (decide ((0 : Int) ≤ t_12))
        (
        cond (decide ((Int.toNat t_12) < ((t_10).2).2))
          (
          cond (decide ((((t_10).2).1 + (Int.toNat t_12)) < (List.length (((List.getD T0 (t_10).1 (([] : List Int), (([] : List (Option Nat)), ())))).2).1)))
            (
            cond (@Option.isSome Nat (List.getD (((List.getD T0 (t_10).1 (([] : List Int), (([] : List (Option Nat)), ())))).2).1 (((t_10).2).1 + (Int.toNat t_12)) (@Option.none Nat)))
              (
              cond (decide (((List.getD T1 (@Option.getD Nat (List.getD (((List.getD T0 (t_10).1 (([] : List Int), (([] : List (Option Nat)), ())))).2).1 (((t_10).2).1 + (Int.toNat t_12)) (@Option.none Nat)) (0 : Nat)) ((0 : Int), ((0 : Int), ((0 : Int), (([] : List (Int × Int)), ())))))).1 = id_1))
                (
                some (Sum.inr ((T0, (T1, ())), ((List.getD (((List.getD T0 (t_10).1 (([] : List Int), (([] : List (Option Nat)), ())))).2).1 (((t_10).2).1 + (Int.toNat t_12)) (@Option.none Nat)), ()))))
                (
                (g_arena_Arena_find_0 N n T0 T1 id_1 t_10 t_11 (wi64 (t_12 + (1 : Int))))))
              (
              none))
            (
            none))
          (
          none))
        (
        none))
      (
      some (Sum.inl ((T0, (T1, ())), ())))

def F_arena_Arena_find (N : Nat) (T0 : List (List Int × (List (Option Nat) × Unit))) (T1 : List (Int × (Int × (Int × (List ((Int × Int)) × Unit))))) (a_0 : Option Nat) (id_1 : Int) : Option ((List (List Int × (List (Option Nat) × Unit)) × (List (Int × (Int × (Int × (List ((Int × Int)) × Unit)))) × Unit)) × (Option Nat × Unit)) :=
  cond (@Option.isSome Nat a_0)
    (
    Option.bind (g_arena_Arena_find_0 N N T0 T1 id_1 ((@Option.getD Nat a_0 (0 : Nat)), ((0 : Nat), (List.length (((List.getD T0 (@Option.getD Nat a_0 (0 : Nat)) (([] : List Int), (([] : List (Option Nat)), ())))).2).1))) (Nat.cast (List.length (((List.getD T0 (@Option.getD Nat a_0 (0 : Nat)) (([] : List Int), (([] : List (Option Nat)), ())))).2).1) : Int) (0 : Int)) fun y0 =>
    Sum.elim (fun y1 =>
      some ((y1).1, ((@Option.none Nat), ())))
      (fun y2 =>
      some y2) y0)
    (
    none)

abbrev c_arena_Arena_find (N : Nat) : CallSpec E := ⟨22, ps_arena_Arena_find, rs_arena_Arena_find, fun x => F_arena_Arena_find N x.1.1 x.1.2.1 x.2.1 x.2.2.1⟩
abbrev l_arena_Arena_find_0 (N : Nat) : LoopSpec E [0, 1] := ⟨0, h_arena_Arena_find_0, e_arena_Arena_find_0, fun x => g_arena_Arena_find_0 N N x.1.1 x.1.2.1 x.2.1 x.2.2.1 x.2.2.2.1 x.2.2.2.2.1⟩

theorem cs_arena_Arena_find_ok (S : Ini) (N : Nat) : CallsOK Go.Proofs.Tryd.prog E S (cs_arena_Arena_find N) :=
  .nil
noncomputable abbrev b_arena_Arena_find_0 : Code := (loopsOf b_arena_Arena_find).getD 0 .skip
theorem g_arena_Arena_find_0_ok (S : Ini) (N : Nat) : ∀ n x y, (fun (x : StV E [0, 1] h_arena_Arena_find_0) => g_arena_Arena_find_0 N n x.1.1 x.1.2.1 x.2.1 x.2.2.1 x.2.2.2.1 x.2.2.2.2.1) x = some y → LoopCon Go.Proofs.Tryd.prog E S b_arena_Arena_find_0 (encSlots E [0, 1] h_arena_Arena_find_0 x) (encEx E [0, 1] e_arena_Arena_find_0 y).1 (encEx E [0, 1] e_arena_Arena_find_0 y).2 :=
  loop_specJ E_ok mixed (E_ok.ks 22) (cs_arena_Arena_find_ok S N) (all := loopsOf b_arena_Arena_find) (ls := []) (.nil) (js := []) (i := 0) (by kernel_rfl) (inner_of (by kernel_rfl)) (head := h_arena_Arena_find_0) (ex := e_arena_Arena_find_0) (fun n (x : StV E [0, 1] h_arena_Arena_find_0) => g_arena_Arena_find_0 N n x.1.1 x.1.2.1 x.2.1 x.2.2.1 x.2.2.2.1 x.2.2.2.2.1) (fun _ => rfl) (fun n x => by kernel_rfl)
theorem F_arena_Arena_find_ok (S : Ini) (N : Nat) : ∀ x y, (c_arena_Arena_find N).g x = some y → FCon Go.Proofs.Tryd.prog E S 22 ps_arena_Arena_find rs_arena_Arena_find x y := by
  intro x y h
  exact fun_specJ E_ok mixed (cs_arena_Arena_find_ok S N) (f := 22) (fi := ⟨b_arena_Arena_find, 25, Go.Proofs.Tryd.f22.results.toList⟩) (by kernel_rfl) (ls := [l_arena_Arena_find_0 N]) (.cons (by kernel_rfl) (g_arena_Arena_find_0_ok S N N) (.nil)) (js := []) (by kernel_rfl) (ps := ps_arena_Arena_find) (rs := rs_arena_Arena_find) (Eq.trans (b := F_arena_Arena_find N x.1.1 x.1.2.1 x.2.1 x.2.2.1) (by kernel_rfl) h)

/-! lodge/arena.gap -/

abbrev ps_arena_gap : List Ty := [(.sl (.st (.pair (.int .i64) (.int .i64)))), (.int .i64), (.int .i64)]
abbrev rs_arena_gap : List Slot := [.data (.int .i64), .data (.int .i64), .data .bool]
abbrev cs_arena_gap (N : Nat) : List (CallSpec E) := []
noncomputable abbrev b_arena_gap : Code := (Go.Proofs.Tryd.f23.body).getD .skip

abbrev h_arena_gap_0 : List Slot := [.data (.sl (.st (.pair (.int .i64) (.int .i64)))), .data (.int .i64), .data (.int .i64), .dead, .dead, .dead, .dead, .dead, .dead, .data (.int .i64), .dead, .dead, .data (.sl (.st (.pair (.int .i64) (.int .i64)))), .data (.int .i64), .data (.int .i64), .dead, .dead, .dead, .dead, .dead, .dead, .dead, .dead, .dead, .dead, .dead, .dead, .dead, .dead, .dead, .dead, .dead, .dead, .dead, .dead, .dead, .dead, .dead, .dead, .dead, .dead]
abbrev e_arena_gap_0 : List (AX × List Slot) := [(AX.exit 0, [.data (.sl (.st (.pair (.int .i64) (.int .i64)))), .data (.int .i64), .data (.int .i64), .dead, .dead, .dead, .dead, .dead, .dead, .data (.int .i64), .dead, .dead, .dead, .dead, .dead, .dead, .dead, .dead, .dead, .dead, .dead, .dead, .dead, .dead, .dead, .dead, .dead, .dead, .dead, .dead, .dead, .dead, .dead, .dead, .dead, .dead, .dead, .dead, .dead, .dead, .dead]), (AX.ret, [.dead, .dead, .dead, .dead, .dead, .dead, .data (.int .i64), .data (.int .i64), .data .bool, .dead, .dead, .dead, .dead, .dead, .dead, .dead, .dead, .dead, .dead, .dead, .dead, .dead, .dead, .dead, .dead, .dead, .dead, .dead, .dead, .dead, .dead, .dead, .dead, .dead, .dead, .dead, .dead, .dead, .dead, .dead, .dead])]
def g_arena_gap_0 (N : Nat) : Nat → List ((Int × Int)) → Int → Int → Int → List ((Int × Int)) → Int → Int → Option (Sum (Unit × (List ((Int × Int)) × (Int × (Int × (Int × Unit))))) (Unit × (Int × (Int × (Bool × Unit)))))
  | 0, _, _, _, _, _, _, _ => none
  | n + 1, l_0, size_1, n_2, at_9, t_12, t_13, t_14 =>
    cond (decide (t_14 < t_13))
      (
      cond (decide ((0 : Int) ≤ t_14))
        (
        cond (decide ((Int.toNat t_14) < (List.length t_12)))
          (
          cond (decide (n_2 ≤ (wi64 (((List.getD t_12 (Int.toNat t_14) ((0 : Int), (0 : Int)))).1 - at_9))))
            (
            some (Sum.inr ((), (at_9, (t_14, (true, ()))))))
            (
            (g_arena_gap_0 N n l_0 size_1 n_2 (wi64 (((List.getD t_12 (Int.toNat t_14) ((0 : Int), (0 : Int)))).1 + ((List.getD t_12 (Int.toNat t_14) ((0 : Int), (0 : Int)))).2)) t_12 t_13 (wi64 (t_14 + (1 : Int))))))
          (
          none))
        (
        none))
      (
      some (Sum.inl ((), (l_0, (size_1, (n_2, (at_9, ())))))))

def F_arena_gap (N : Nat) (l_0 : List ((Int × Int))) (size_1 : Int) (n_2 : Int) : Option (Unit × (Int × (Int × (Bool × Unit)))) :=
  Option.bind (g_arena_gap_0 N N l_0 size_1 n_2 (0 : Int) l_0 (Nat.cast (List.length l_0) : Int) (0 : Int)) fun y0 =>
  Sum.elim (fun y1 =>
    some ((), ((((((y1).2).2).2).2).1, ((Nat.cast (List.length ((y1).2).1) : Int), ((decide (((((y1).2).2).2).1 ≤ (wi64 ((((y1).2).2).1 - (((((y1).2).2).2).2).1)))), ())))))
    (fun y2 =>
    some ((), (y2).2)) y0

abbrev c_arena_gap (N : Nat) : CallSpec E := ⟨23, ps_arena_gap, rs_arena_gap, fun x => F_arena_gap N x.2.1 x.2.2.1 x.2.2.2.1⟩
abbrev l_arena_gap_0 (N : Nat) : LoopSpec E [] := ⟨0, h_arena_gap_0, e_arena_gap_0, fun x => g_arena_gap_0 N N x.2.1 x.2.2.1 x.2.2.2.1 x.2.2.2.2.1 x.2.2.2.2.2.1 x.2.2.2.2.2.2.1 x.2.2.2.2.2.2.2.1⟩

theorem cs_arena_gap_ok (S : Ini) (N : Nat) : CallsOK Go.Proofs.Tryd.prog E S (cs_arena_gap N) :=
  .nil
noncomputable abbrev b_arena_gap_0 : Code := (loopsOf b_arena_gap).getD 0 .skip
theorem g_arena_gap_0_ok (S : Ini) (N : Nat) : ∀ n x y, (fun (x : StV E [] h_arena_gap_0) => g_arena_gap_0 N n x.2.1 x.2.2.1 x.2.2.2.1 x.2.2.2.2.1 x.2.2.2.2.2.1 x.2.2.2.2.2.2.1 x.2.2.2.2.2.2.2.1) x = some y → LoopCon Go.Proofs.Tryd.prog E S b_arena_gap_0 (encSlots E [] h_arena_gap_0 x) (encEx E [] e_arena_gap_0 y).1 (encEx E [] e_arena_gap_0 y).2 :=
  loop_specJ E_ok mixed (E_ok.ks 23) (cs_arena_gap_ok S N) (all := loopsOf b_arena_gap) (ls := []) (.nil) (js := []) (i := 0) (by kernel_rfl) (inner_of (by kernel_rfl)) (head := h_arena_gap_0) (ex := e_arena_gap_0) (fun n (x : StV E [] h_arena_gap_0) => g_arena_gap_0 N n x.2.1 x.2.2.1 x.2.2.2.1 x.2.2.2.2.1 x.2.2.2.2.2.1 x.2.2.2.2.2.2.1 x.2.2.2.2.2.2.2.1) (fun _ => rfl) (fun n x => by kernel_rfl)
theorem F_arena_gap_ok (S : Ini) (N : Nat) : ∀ x y, (c_arena_gap N).g x = some y → FCon Go.Proofs.Tryd.prog E S 23 ps_arena_gap rs_arena_gap x y := by
  intro x y h
  exact fun_specJ E_ok mixed (cs_arena_gap_ok S N) (f := 23) (fi := ⟨b_arena_gap, 41, Go.Proofs.Tryd.f23.results.toList⟩) (by kernel_rfl) (ls := [l_arena_gap_0 N]) (.cons (by kernel_rfl) (g_arena_gap_0_ok S N N) (.nil)) (js := []) (by kernel_rfl) (ps := ps_arena_gap) (rs := rs_arena_gap) (Eq.trans (b := F_arena_gap N x.2.1 x.2.2.1 x.2.2.2.1) (by kernel_rfl) h)

/-! (*lodge/arena.Arena).Add -/

abbrev ps_arena_Arena_Add : List Ty := [(.hd 0), (.int .i64), (.int .i64)]
abbrev rs_arena_Arena_Add : List Slot := [.data (.st (.pair (.int .i64) (.pair (.int .i64) (.int .i64)))), .data .err]
abbrev cs_arena_Arena_Add (N : Nat) : List (CallSpec E) := [c_arena_Arena_find N, c_arena_gap N]
noncomputable abbrev b_arena_Arena_Add : Code := (Go.Proofs.Tryd.f10.body).getD .skip

abbrev h_arena_Arena_Add_0 : List Slot := [.data (.hd 0), .data (.int .i64), .data (.int .i64), .dead, .dead, .dead, .box [.d (.st (.pair (.int .i64) (.pair (.int .i64) (.int .i64))))], .dead, .sl (.st (.pair (.int .i64) (.int .i64))), .dead, .dead, .dead, .dead, .dead, .dead, .dead, .dead, .dead, .dead, .dead, .dead, .dead, .dead, .dead, .dead, .dead, .dead, .dead, .bor (.hd 1) 0 2, .data (.int .i64), .data (.int .i64), .dead, .dead, .dead, .dead, .dead, .dead, .dead, .dead, .dead, .dead, .dead, .dead, .dead, .dead, .dead, .dead, .dead, .dead, .dead, .dead, .dead, .dead, .dead, .dead, .dead, .dead, .dead, .dead, .dead, .dead, .dead, .dead, .dead, .dead, .dead, .dead, .dead, .dead, .dead, .dead, .dead, .dead, .dead, .dead, .dead, .dead, .dead, .dead, .dead, .dead, .dead, .dead]
abbrev e_arena_Arena_Add_0 : List (AX × List Slot) := [(AX.exit 0, [.data (.hd 0), .data (.int .i64), .data (.int .i64), .dead, .dead, .dead, .box [.d (.st (.pair (.int .i64) (.pair (.int .i64) (.int .i64))))], .dead, .sl (.st (.pair (.int .i64) (.int .i64))), .dead, .dead, .dead, .dead, .dead, .dead, .dead, .dead, .dead, .dead, .dead, .dead, .dead, .dead, .dead, .dead, .dead, .dead, .dead, .dead, .dead, .dead, .dead, .dead, .dead, .dead, .dead, .dead, .dead, .dead, .dead, .dead, .dead, .dead, .dead, .dead, .dead, .dead, .dead, .dead, .dead, .dead, .dead, .dead, .dead, .dead, .dead, .dead, .dead, .dead, .dead, .dead, .dead, .dead, .dead, .dead, .dead, .dead, .dead, .dead, .dead, .dead, .dead, .dead, .dead, .dead, .dead, .dead, .dead, .dead, .dead, .dead, .dead, .dead])]
def g_arena_Arena_Add_0 (N : Nat) : Nat → List (List Int × (List (Option Nat) × Unit)) → List (Int × (Int × (Int × (List ((Int × Int)) × Unit)))) → Option Nat → Int → Int → ((Int × (Int × Int)) × Unit) → List ((Int × Int)) → (Nat × (Nat × Nat)) → Int → Int → Option ((List (List Int × (List (Option Nat) × Unit)) × (List (Int × (Int × (Int × (List ((Int × Int)) × Unit)))) × Unit)) × (Option Nat × (Int × (Int × (((Int × (Int × Int)) × Unit) × (List ((Int × Int)) × Unit))))))
  | 0, _, _, _, _, _, _, _, _, _, _ => none
  | n + 1, T0, T1, a_0, id_1, size_2, t_6, l_8, t_28, t_29, t_30 =>
    cond (decide (t_30 < t_29))
      (
      cond (decide ((0 : Int) ≤ t_30))
        (
        cond (decide ((Int.toNat t_30) < ((t_28).2).2))
          (
          cond (decide ((((t_28).2).1 + (Int.toNat t_30)) < (List.length (((List.getD T0 (t_28).1 (([] : List Int), (([] : List (Option Nat)), ())))).2).1)))
            (
            cond (@Option.isSome Nat (List.getD (((List.getD T0 (t_28).1 (([] : List Int), (([] : List (Option Nat)), ())))).2).1 (((t_28).2).1 + (Int.toNat t_30)) (@Option.none Nat)))
              (
              cond (@Option.isSome Nat (List.getD (((List.getD T0 (t_28).1 (([] : List Int), (([] : List (Option Nat)), ())))).2).1 (((t_28).2).1 + (Int.toNat t_30)) (@Option.none Nat)))
                (
                cond (decide (((0 : Nat) + (List.length l_8)) = (List.length l_8)))
                  (
                  cond (decide ((((List.length l_8) + 1) * (16 + (1 : Nat))) ≤ Go.Eng.most))
                    (
                    cond (decide (((List.length l_8) + 1) = (List.length ((List.take (List.length l_8) l_8) ++ (((((List.getD T1 (@Option.getD Nat (List.getD (((List.getD T0 (t_28).1 (([] : List Int), (([] : List (Option Nat)), ())))).2).1 (((t_28).2).1 + (Int.toNat t_30)) (@Option.none Nat)) (0 : Nat)) ((0 : Int), ((0 : Int), ((0 : Int), (([] : List (Int × Int)), ())))))).2).1, ((((List.getD T1 (@Option.getD Nat (List.getD (((List.getD T0 (t_28).1 (([] : List Int), (([] : List (Option Nat)), ())))).2).1 (((t_28).2).1 + (Int.toNat t_30)) (@Option.none Nat)) (0 : Nat)) ((0 : Int), ((0 : Int), ((0 : Int), (([] : List (Int × Int)), ())))))).2).2).1) :: ([] : List (Int × Int)))))))
                      (
                      (g_arena_Arena_Add_0 N n T0 T1 a_0 id_1 size_2 t_6 ((List.take (List.length l_8) l_8) ++ (((((List.getD T1 (@Option.getD Nat (List.getD (((List.getD T0 (t_28).1 (([] : List Int), (([] : List (Option Nat)), ())))).2).1 (((t_28).2).1 + (Int.toNat t_30)) (@Option.none Nat)) (0 : Nat)) ((0 : Int), ((0 : Int), ((0 : Int), (([] : List (Int × Int)), ())))))).2).1, ((((List.getD T1 (@Option.getD Nat (List.getD (((List.getD T0 (t_28).1 (([] : List Int), (([] : List (Option Nat)), ())))).2).1 (((t_28).2).1 + (Int.toNat t_30)) (@Option.none Nat)) (0 : Nat)) ((0 : Int), ((0 : Int), ((0 : Int), (([] : List (Int × Int)), ())))))).2).2).1) :: ([] : List (Int × Int)))) t_28 t_29 (wi64 (t_30 + (1 : Int)))))
                      (
                      none))
                    (
                    none))
                  (
                  none))
                (
                none))
              (
              none))
            (
            none))
          (
          none))
        (
        none))
      (
      cond (decide ((List.length l_8) = (List.length l_8)))
        (
        some ((T0, (T1, ())), (a_0, (id_1, (size_2, (t_6, (l_8, ())))))))
        (
        none))

def F_arena_Arena_Add (N : Nat) (T0 : List (List Int × (List (Option Nat) × Unit))) (T1 : List (Int × (Int × (Int × (List ((Int × Int)) × Unit))))) (a_0 : Option Nat) (id_1 : Int) (size_2 : Int) : Option ((List (List Int × (List (Option Nat) × Unit)) × (List (Int × (Int × (Int × (List ((Int × Int)) × Unit)))) × Unit)) × ((Int × (Int × Int)) × (Er × Unit))) :=
  cond (decide (size_2 < (1 : Int)))
    (
    some ((T0, (T1, ())), (((0 : Int), ((0 : Int), (0 : Int))), ((Go.Eng.Er.s ErrRange), ()))))
    (
    Option.bind (F_arena_Arena_find N T0 T1 a_0 id_1) fun y0 =>
    cond (Bool.not (@Option.isNone Nat ((y0).2).1))
      (
      some ((y0).1, (((0 : Int), ((0 : Int), (0 : Int))), ((Go.Eng.Er.s ErrRange), ()))))
      (
      cond (@Option.isSome Nat a_0)
        (
        Option.bind (g_arena_Arena_Add_0 N N ((y0).1).1 (((y0).1).2).1 a_0 id_1 size_2 (((0 : Int), ((0 : Int), (0 : Int))), ()) ([] : List (Int × Int)) ((@Option.getD Nat a_0 (0 : Nat)), ((0 : Nat), (List.length (((List.getD ((y0).1).1 (@Option.getD Nat a_0 (0 : Nat)) (([] : List Int), (([] : List (Option Nat)), ())))).2).1))) (Nat.cast (List.length (((List.getD ((y0).1).1 (@Option.getD Nat a_0 (0 : Nat)) (([] : List Int), (([] : List (Option Nat)), ())))).2).1) : Int) (0 : Int)) fun y1 =>
        cond (@Option.isSome Nat ((y1).2).1)
          (
          cond (decide (((0 : Nat) + (List.length ((((((y1).2).2).2).2).2).1)) ≤ (List.length ((((((y1).2).2).2).2).2).1)))
            (
            Option.bind (F_arena_gap N (List.take (List.length ((((((y1).2).2).2).2).2).1) ((((((y1).2).2).2).2).2).1) (Nat.cast (List.length ((List.getD ((y1).1).1 (@Option.getD Nat ((y1).2).1 (0 : Nat)) (([] : List Int), (([] : List (Option Nat)), ())))).1) : Int) ((((y1).2).2).2).1) fun y2 =>
            cond (Bool.not ((((y2).2).2).2).1)
              (
              some ((y1).1, (((0 : Int), ((0 : Int), (0 : Int))), ((Go.Eng.Er.s ErrRoom), ()))))
              (
              cond (@Option.isSome Nat ((y1).2).1)
                (
                cond (decide (((0 : Nat) + (List.length (((List.getD ((y1).1).1 (@Option.getD Nat ((y1).2).1 (0 : Nat)) (([] : List Int), (([] : List (Option Nat)), ())))).2).1)) = (List.length (((List.getD ((y1).1).1 (@Option.getD Nat ((y1).2).1 (0 : Nat)) (([] : List Int), (([] : List (Option Nat)), ())))).2).1)))
                  (
                  cond (decide ((0 : Int) ≤ (((y2).2).2).1))
                    (
                    cond (decide ((Int.toNat (((y2).2).2).1) ≤ (List.length (List.take (List.length (((List.getD ((y1).1).1 (@Option.getD Nat ((y1).2).1 (0 : Nat)) (([] : List Int), (([] : List (Option Nat)), ())))).2).1) (((List.getD ((y1).1).1 (@Option.getD Nat ((y1).2).1 (0 : Nat)) (([] : List Int), (([] : List (Option Nat)), ())))).2).1))))
                      (
                      cond (decide ((((List.length (List.take (List.length (((List.getD ((y1).1).1 (@Option.getD Nat ((y1).2).1 (0 : Nat)) (([] : List Int), (([] : List (Option Nat)), ())))).2).1) (((List.getD ((y1).1).1 (@Option.getD Nat ((y1).2).1 (0 : Nat)) (([] : List Int), (([] : List (Option Nat)), ())))).2).1)) + (1 : Nat)) * ((8 : Nat) + (1 : Nat))) ≤ Go.Eng.most))
                        (
                        cond (@Option.isSome Nat ((y1).2).1)
                          (
                          cond (decide (((0 : Nat) + ((List.length (List.take (List.length (((List.getD ((y1).1).1 (@Option.getD Nat ((y1).2).1 (0 : Nat)) (([] : List Int), (([] : List (Option Nat)), ())))).2).1) (((List.getD ((y1).1).1 (@Option.getD Nat ((y1).2).1 (0 : Nat)) (([] : List Int), (([] : List (Option Nat)), ())))).2).1)) + (1 : Nat))) ≤ (List.length (((List.take (Int.toNat (((y2).2).2).1) (List.take (List.length (((List.getD ((y1).1).1 (@Option.getD Nat ((y1).2).1 (0 : Nat)) (([] : List Int), (([] : List (Option Nat)), ())))).2).1) (((List.getD ((y1).1).1 (@Option.getD Nat ((y1).2).1 (0 : Nat)) (([] : List Int), (([] : List (Option Nat)), ())))).2).1)) ++ ((@Option.some Nat (List.length (((y1).1).2).1)) :: ([] : List (Option Nat)))) ++ (List.drop (Int.toNat (((y2).2).2).1) (List.take (List.length (((List.getD ((y1).1).1 (@Option.getD Nat ((y1).2).1 (0 : Nat)) (([] : List Int), (([] : List (Option Nat)), ())))).2).1) (((List.getD ((y1).1).1 (@Option.getD Nat ((y1).2).1 (0 : Nat)) (([] : List Int), (([] : List (Option Nat)), ())))).2).1))))))
                            (
                            cond (decide ((@Option.getD Nat ((y1).2).1 (0 : Nat)) = (@Option.getD Nat ((y1).2).1 (0 : Nat))))
                              (
                              some (((List.set ((y1).1).1 (@Option.getD Nat ((y1).2).1 (0 : Nat)) (((List.getD ((y1).1).1 (@Option.getD Nat ((y1).2).1 (0 : Nat)) (([] : List Int), (([] : List (Option Nat)), ())))).1, ((List.take ((List.length (List.take (List.length (((List.getD ((y1).1).1 (@Option.getD Nat ((y1).2).1 (0 : Nat)) (([] : List Int), (([] : List (Option Nat)), ())))).2).1) (((List.getD ((y1).1).1 (@Option.getD Nat ((y1).2).1 (0 : Nat)) (([] : List Int), (([] : List (Option Nat)), ())))).2).1)) + (1 : Nat)) (((List.take (Int.toNat (((y2).2).2).1) (List.take (List.length (((List.getD ((y1).1).1 (@Option.getD Nat ((y1).2).1 (0 : Nat)) (([] : List Int), (([] : List (Option Nat)), ())))).2).1) (((List.getD ((y1).1).1 (@Option.getD Nat ((y1).2).1 (0 : Nat)) (([] : List Int), (([] : List (Option Nat)), ())))).2).1)) ++ ((@Option.some Nat (List.length (((y1).1).2).1)) :: ([] : List (Option Nat)))) ++ (List.drop (Int.toNat (((y2).2).2).1) (List.take (List.length (((List.getD ((y1).1).1 (@Option.getD Nat ((y1).2).1 (0 : Nat)) (([] : List Int), (([] : List (Option Nat)), ())))).2).1) (((List.getD ((y1).1).1 (@Option.getD Nat ((y1).2).1 (0 : Nat)) (([] : List Int), (([] : List (Option Nat)), ())))).2).1)))), (((List.getD ((y1).1).1 (@Option.getD Nat ((y1).2).1 (0 : Nat)) (([] : List Int), (([] : List (Option Nat)), ())))).2).2))), (((((y1).1).2).1 ++ (((((y1).2).2).1, (((y2).2).1, (((((y1).2).2).2).1, (([] : List (Int × Int)), ())))) :: ([] : List (Int × (Int × (Int × ((List (Int × Int)) × PUnit))))))), ())), (((((y1).2).2).1, (((y2).2).1, ((((y1).2).2).2).1)), (Go.Eng.Er.nil, ()))))
                              (
                              none))
                            (
                            none))
                          (
                          none))
                        (
                        none))
                      (
                      none))
                    (
                    none))
                  (
                  none))
                (
                none)))
            (
            none))
          (
          none))
        (
        none)))

abbrev c_arena_Arena_Add (N : Nat) : CallSpec E := ⟨10, ps_arena_Arena_Add, rs_arena_Arena_Add, fun x => F_arena_Arena_Add N x.1.1 x.1.2.1 x.2.1 x.2.2.1 x.2.2.2.1⟩
abbrev l_arena_Arena_Add_0 (N : Nat) : LoopSpec E [0, 1] := ⟨0, h_arena_Arena_Add_0, e_arena_Arena_Add_0, fun x => g_arena_Arena_Add_0 N N x.1.1 x.1.2.1 x.2.1 x.2.2.1 x.2.2.2.1 x.2.2.2.2.1 x.2.2.2.2.2.1 x.2.2.2.2.2.2.1 x.2.2.2.2.2.2.2.1 x.2.2.2.2.2.2.2.2.1⟩

theorem cs_arena_Arena_Add_ok (S : Ini) (N : Nat) : CallsOK Go.Proofs.Tryd.prog E S (cs_arena_Arena_Add N) :=
  .cons (F_arena_Arena_find_ok S N) (.cons (F_arena_gap_ok S N) (.nil))
noncomputable abbrev b_arena_Arena_Add_0 : Code := (loopsOf b_arena_Arena_Add).getD 0 .skip
theorem g_arena_Arena_Add_0_ok (S : Ini) (N : Nat) : ∀ n x y, (fun (x : StV E [0, 1] h_arena_Arena_Add_0) => g_arena_Arena_Add_0 N n x.1.1 x.1.2.1 x.2.1 x.2.2.1 x.2.2.2.1 x.2.2.2.2.1 x.2.2.2.2.2.1 x.2.2.2.2.2.2.1 x.2.2.2.2.2.2.2.1 x.2.2.2.2.2.2.2.2.1) x = some y → LoopCon Go.Proofs.Tryd.prog E S b_arena_Arena_Add_0 (encSlots E [0, 1] h_arena_Arena_Add_0 x) (encEx E [0, 1] e_arena_Arena_Add_0 y).1 (encEx E [0, 1] e_arena_Arena_Add_0 y).2 :=
  loop_specJ E_ok mixed (E_ok.ks 10) (cs_arena_Arena_Add_ok S N) (all := loopsOf b_arena_Arena_Add) (ls := []) (.nil) (js := []) (i := 0) (by kernel_rfl) (inner_of (by kernel_rfl)) (head := h_arena_Arena_Add_0) (ex := e_arena_Arena_Add_0) (fun n (x : StV E [0, 1] h_arena_Arena_Add_0) => g_arena_Arena_Add_0 N n x.1.1 x.1.2.1 x.2.1 x.2.2.1 x.2.2.2.1 x.2.2.2.2.1 x.2.2.2.2.2.1 x.2.2.2.2.2.2.1 x.2.2.2.2.2.2.2.1 x.2.2.2.2.2.2.2.2.1) (fun _ => rfl) (fun n x => by kernel_rfl)
theorem F_arena_Arena_Add_ok (S : Ini) (N : Nat) : ∀ x y, (c_arena_Arena_Add N).g x = some y → FCon Go.Proofs.Tryd.prog E S 10 ps_arena_Arena_Add rs_arena_Arena_Add x y := by
  intro x y h
  exact fun_specJ E_ok mixed (cs_arena_Arena_Add_ok S N) (f := 10) (fi := ⟨b_arena_Arena_Add, 83, Go.Proofs.Tryd.f10.results.toList⟩) (by kernel_rfl) (ls := [l_arena_Arena_Add_0 N]) (.cons (by kernel_rfl) (g_arena_Arena_Add_0_ok S N N) (.nil)) (js := []) (by kernel_rfl) (ps := ps_arena_Arena_Add) (rs := rs_arena_Arena_Add) (Eq.trans (b := F_arena_Arena_Add N x.1.1 x.1.2.1 x.2.1 x.2.2.1 x.2.2.2.1) (by kernel_rfl) h)

/-! (*lodge/arena.Arena).Take -/

abbrev ps_arena_Arena_Take : List Ty := [(.hd 0), (.int .i64), (.int .i64)]
abbrev rs_arena_Arena_Take : List Slot := [.data (.int .i64), .data .err]
abbrev cs_arena_Arena_Take (N : Nat) : List (CallSpec E) := [c_arena_Arena_find N, c_arena_gap N]
noncomputable abbrev b_arena_Arena_Take : Code := (Go.Proofs.Tryd.f11.body).getD .skip

def F_arena_Arena_Take (N : Nat) (T0 : List (List Int × (List (Option Nat) × Unit))) (T1 : List (Int × (Int × (Int × (List ((Int × Int)) × Unit))))) (a_0 : Option Nat) (id_1 : Int) (n_2 : Int) : Option ((List (List Int × (List (Option Nat) × Unit)) × (List (Int × (Int × (Int × (List ((Int × Int)) × Unit)))) × Unit)) × (Int × (Er × Unit))) :=
  Option.bind (F_arena_Arena_find N T0 T1 a_0 id_1) fun y0 =>
  cond (@Option.isNone Nat ((y0).2).1)
    (
    some ((y0).1, ((0 : Int), ((Go.Eng.Er.s ErrNone), ()))))
    (
    cond (decide (n_2 < (1 : Int)))
      (
      some ((y0).1, ((0 : Int), ((Go.Eng.Er.s ErrRange), ()))))
      (
      cond (@Option.isSome Nat ((y0).2).1)
        (
        cond (@Option.isSome Nat ((y0).2).1)
          (
          cond (decide (((0 : Nat) + (List.length (((((List.getD (((y0).1).2).1 (@Option.getD Nat ((y0).2).1 (0 : Nat)) ((0 : Int), ((0 : Int), ((0 : Int), (([] : List (Int × Int)), ())))))).2).2).2).1)) ≤ (List.length (((((List.getD (((y0).1).2).1 (@Option.getD Nat ((y0).2).1 (0 : Nat)) ((0 : Int), ((0 : Int), ((0 : Int), (([] : List (Int × Int)), ())))))).2).2).2).1)))
            (
            Option.bind (F_arena_gap N (List.take (List.length (((((List.getD (((y0).1).2).1 (@Option.getD Nat ((y0).2).1 (0 : Nat)) ((0 : Int), ((0 : Int), ((0 : Int), (([] : List (Int × Int)), ())))))).2).2).2).1) (((((List.getD (((y0).1).2).1 (@Option.getD Nat ((y0).2).1 (0 : Nat)) ((0 : Int), ((0 : Int), ((0 : Int), (([] : List (Int × Int)), ())))))).2).2).2).1) ((((List.getD (((y0).1).2).1 (@Option.getD Nat ((y0).2).1 (0 : Nat)) ((0 : Int), ((0 : Int), ((0 : Int), (([] : List (Int × Int)), ())))))).2).2).1 n_2) fun y1 =>
            cond (Bool.not ((((y1).2).2).2).1)
              (
              some ((y0).1, ((0 : Int), ((Go.Eng.Er.s ErrRoom), ()))))
              (
              cond (@Option.isSome Nat ((y0).2).1)
                (
                cond (decide (((0 : Nat) + (List.length (((((List.getD (((y0).1).2).1 (@Option.getD Nat ((y0).2).1 (0 : Nat)) ((0 : Int), ((0 : Int), ((0 : Int), (([] : List (Int × Int)), ())))))).2).2).2).1)) = (List.length (((((List.getD (((y0).1).2).1 (@Option.getD Nat ((y0).2).1 (0 : Nat)) ((0 : Int), ((0 : Int), ((0 : Int), (([] : List (Int × Int)), ())))))).2).2).2).1)))
                  (
                  cond (decide ((0 : Int) ≤ (((y1).2).2).1))
                    (
                    cond (decide ((Int.toNat (((y1).2).2).1) ≤ (List.length (List.take (List.length (((((List.getD (((y0).1).2).1 (@Option.getD Nat ((y0).2).1 (0 : Nat)) ((0 : Int), ((0 : Int), ((0 : Int), (([] : List (Int × Int)), ())))))).2).2).2).1) (((((List.getD (((y0).1).2).1 (@Option.getD Nat ((y0).2).1 (0 : Nat)) ((0 : Int), ((0 : Int), ((0 : Int), (([] : List (Int × Int)), ())))))).2).2).2).1))))
                      (
                      cond (decide ((((List.length (List.take (List.length (((((List.getD (((y0).1).2).1 (@Option.getD Nat ((y0).2).1 (0 : Nat)) ((0 : Int), ((0 : Int), ((0 : Int), (([] : List (Int × Int)), ())))))).2).2).2).1) (((((List.getD (((y0).1).2).1 (@Option.getD Nat ((y0).2).1 (0 : Nat)) ((0 : Int), ((0 : Int), ((0 : Int), (([] : List (Int × Int)), ())))))).2).2).2).1)) + (1 : Nat)) * ((16 : Nat) + (1 : Nat))) ≤ Go.Eng.most))
                        (
                        cond (@Option.isSome Nat ((y0).2).1)
                          (
                          cond (decide (((0 : Nat) + ((List.length (List.take (List.length (((((List.getD (((y0).1).2).1 (@Option.getD Nat ((y0).2).1 (0 : Nat)) ((0 : Int), ((0 : Int), ((0 : Int), (([] : List (Int × Int)), ())))))).2).2).2).1) (((((List.getD (((y0).1).2).1 (@Option.getD Nat ((y0).2).1 (0 : Nat)) ((0 : Int), ((0 : Int), ((0 : Int), (([] : List (Int × Int)), ())))))).2).2).2).1)) + (1 : Nat))) ≤ (List.length (((List.take (Int.toNat (((y1).2).2).1) (List.take (List.length (((((List.getD (((y0).1).2).1 (@Option.getD Nat ((y0).2).1 (0 : Nat)) ((0 : Int), ((0 : Int), ((0 : Int), (([] : List (Int × Int)), ())))))).2).2).2).1) (((((List.getD (((y0).1).2).1 (@Option.getD Nat ((y0).2).1 (0 : Nat)) ((0 : Int), ((0 : Int), ((0 : Int), (([] : List (Int × Int)), ())))))).2).2).2).1)) ++ ((((y1).2).1, n_2) :: ([] : List (Int × Int)))) ++ (List.drop (Int.toNat (((y1).2).2).1) (List.take (List.length (((((List.getD (((y0).1).2).1 (@Option.getD Nat ((y0).2).1 (0 : Nat)) ((0 : Int), ((0 : Int), ((0 : Int), (([] : List (Int × Int)), ())))))).2).2).2).1) (((((List.getD (((y0).1).2).1 (@Option.getD Nat ((y0).2).1 (0 : Nat)) ((0 : Int), ((0 : Int), ((0 : Int), (([] : List (Int × Int)), ())))))).2).2).2).1))))))
                            (
                            cond (decide ((@Option.getD Nat ((y0).2).1 (0 : Nat)) = (@Option.getD Nat ((y0).2).1 (0 : Nat))))
                              (
                              some ((((y0).1).1, ((List.set (((y0).1).2).1 (@Option.getD Nat ((y0).2).1 (0 : Nat)) (((List.getD (((y0).1).2).1 (@Option.getD Nat ((y0).2).1 (0 : Nat)) ((0 : Int), ((0 : Int), ((0 : Int), (([] : List (Int × Int)), ())))))).1, ((((List.getD (((y0).1).2).1 (@Option.getD Nat ((y0).2).1 (0 : Nat)) ((0 : Int), ((0 : Int), ((0 : Int), (([] : List (Int × Int)), ())))))).2).1, (((((List.getD (((y0).1).2).1 (@Option.getD Nat ((y0).2).1 (0 : Nat)) ((0 : Int), ((0 : Int), ((0 : Int), (([] : List (Int × Int)), ())))))).2).2).1, ((List.take ((List.length (List.take (List.length (((((List.getD (((y0).1).2).1 (@Option.getD Nat ((y0).2).1 (0 : Nat)) ((0 : Int), ((0 : Int), ((0 : Int), (([] : List (Int × Int)), ())))))).2).2).2).1) (((((List.getD (((y0).1).2).1 (@Option.getD Nat ((y0).2).1 (0 : Nat)) ((0 : Int), ((0 : Int), ((0 : Int), (([] : List (Int × Int)), ())))))).2).2).2).1)) + (1 : Nat)) (((List.take (Int.toNat (((y1).2).2).1) (List.take (List.length (((((List.getD (((y0).1).2).1 (@Option.getD Nat ((y0).2).1 (0 : Nat)) ((0 : Int), ((0 : Int), ((0 : Int), (([] : List (Int × Int)), ())))))).2).2).2).1) (((((List.getD (((y0).1).2).1 (@Option.getD Nat ((y0).2).1 (0 : Nat)) ((0 : Int), ((0 : Int), ((0 : Int), (([] : List (Int × Int)), ())))))).2).2).2).1)) ++ ((((y1).2).1, n_2) :: ([] : List (Int × Int)))) ++ (List.drop (Int.toNat (((y1).2).2).1) (List.take (List.length (((((List.getD (((y0).1).2).1 (@Option.getD Nat ((y0).2).1 (0 : Nat)) ((0 : Int), ((0 : Int), ((0 : Int), (([] : List (Int × Int)), ())))))).2).2).2).1) (((((List.getD (((y0).1).2).1 (@Option.getD Nat ((y0).2).1 (0 : Nat)) ((0 : Int), ((0 : Int), ((0 : Int), (([] : List (Int × Int)), ())))))).2).2).2).1)))), (((((List.getD (((y0).1).2).1 (@Option.getD Nat ((y0).2).1 (0 : Nat)) ((0 : Int), ((0 : Int), ((0 : Int), (([] : List (Int × Int)), ())))))).2).2).2).2))))), ())), (((y1).2).1, (Go.Eng.Er.nil, ()))))
                              (
                              none))
                            (
                            none))
                          (
                          none))
                        (
                        none))
                      (
                      none))
                    (
                    none))
                  (
                  none))
                (
                none)))
            (
            none))
          (
          none))
        (
        none)))

abbrev c_arena_Arena_Take (N : Nat) : CallSpec E := ⟨11, ps_arena_Arena_Take, rs_arena_Arena_Take, fun x => F_arena_Arena_Take N x.1.1 x.1.2.1 x.2.1 x.2.2.1 x.2.2.2.1⟩

theorem cs_arena_Arena_Take_ok (S : Ini) (N : Nat) : CallsOK Go.Proofs.Tryd.prog E S (cs_arena_Arena_Take N) :=
  .cons (F_arena_Arena_find_ok S N) (.cons (F_arena_gap_ok S N) (.nil))
theorem F_arena_Arena_Take_ok (S : Ini) (N : Nat) : ∀ x y, (c_arena_Arena_Take N).g x = some y → FCon Go.Proofs.Tryd.prog E S 11 ps_arena_Arena_Take rs_arena_Arena_Take x y := by
  intro x y h
  exact fun_specJ E_ok mixed (cs_arena_Arena_Take_ok S N) (f := 11) (fi := ⟨b_arena_Arena_Take, 53, Go.Proofs.Tryd.f11.results.toList⟩) (by kernel_rfl) (ls := []) (.nil) (js := []) (by kernel_rfl) (ps := ps_arena_Arena_Take) (rs := rs_arena_Arena_Take) (Eq.trans (b := F_arena_Arena_Take N x.1.1 x.1.2.1 x.2.1 x.2.2.1 x.2.2.2.1) (by kernel_rfl) h)

/-! (*lodge/arena.Arena).Drop$1 -/

abbrev ps_arena_Arena_Drop_1 : List Ty := [(.st (.pair (.int .i64) (.int .i64))), (.ref (.int .i64))]
abbrev rs_arena_Arena_Drop_1 : List Slot := [.data .bool]
abbrev cs_arena_Arena_Drop_1 (N : Nat) : List (CallSpec E) := []
noncomputable abbrev b_arena_Arena_Drop_1 : Code := (Go.Proofs.Tryd.f29.body).getD .skip

def F_arena_Arena_Drop_1 (N : Nat) (x_0 : (Int × Int)) (t_1 : Int) : Option (Unit × (Bool × Unit)) :=
  some ((), ((decide ((x_0).1 = t_1)), ()))

abbrev c_arena_Arena_Drop_1 (N : Nat) : CallSpec E := ⟨29, ps_arena_Arena_Drop_1, rs_arena_Arena_Drop_1, fun x => F_arena_Arena_Drop_1 N x.2.1 x.2.2.1⟩

theorem cs_arena_Arena_Drop_1_ok (S : Ini) (N : Nat) : CallsOK Go.Proofs.Tryd.prog E S (cs_arena_Arena_Drop_1 N) :=
  .nil
theorem F_arena_Arena_Drop_1_ok (S : Ini) (N : Nat) : ∀ x y, (c_arena_Arena_Drop_1 N).g x = some y → FCon Go.Proofs.Tryd.prog E S 29 ps_arena_Arena_Drop_1 rs_arena_Arena_Drop_1 x y := by
  intro x y h
  exact fun_specJ E_ok mixed (cs_arena_Arena_Drop_1_ok S N) (f := 29) (fi := ⟨b_arena_Arena_Drop_1, 8, Go.Proofs.Tryd.f29.results.toList⟩) (by kernel_rfl) (ls := []) (.nil) (js := []) (by kernel_rfl) (ps := ps_arena_Arena_Drop_1) (rs := rs_arena_Arena_Drop_1) (Eq.trans (b := F_arena_Arena_Drop_1 N x.2.1 x.2.2.1) (by kernel_rfl) h)

/-! slices.IndexFunc[[]lodge/arena.block,lodge/arena.block] -/

abbrev ps_slices_IndexFunc_arena_block : List Ty := [(.sl (.st (.pair (.int .i64) (.int .i64)))), (.clo 29 (.ref (.int .i64)))]
abbrev rs_slices_IndexFunc_arena_block : List Slot := [.data (.int .i64)]
abbrev cs_slices_IndexFunc_arena_block (N : Nat) : List (CallSpec E) := [c_arena_Arena_Drop_1 N]
noncomputable abbrev b_slices_IndexFunc_arena_block : Code := (Go.Proofs.Tryd.f28.body).getD .skip

abbrev h_slices_IndexFunc_arena_block_0 : List Slot := [.data (.sl (.st (.pair (.int .i64) (.int .i64)))), .data (.clo 29 (.ref (.int .i64))), .dead, .dead, .dead, .dead, .dead, .data (.int .i64), .data (.int .i64), .dead, .dead, .dead, .dead, .dead, .dead, .dead, .dead, .dead, .dead]
abbrev e_slices_IndexFunc_arena_block_0 : List (AX × List Slot) := [(AX.exit 0, [.dead, .dead, .dead, .dead, .dead, .dead, .dead, .dead, .dead, .dead, .dead, .dead, .dead, .dead, .dead, .dead, .dead, .dead, .dead]), (AX.ret, [.dead, .dead, .dead, .dead, .data (.int .i64), .dead, .dead, .dead, .dead, .dead, .dead, .dead, .dead, .dead, .dead, .dead, .dead, .dead, .dead])]
def g_slices_IndexFunc_arena_block_0 (N : Nat) : Nat → List ((Int × Int)) → Int → Int → Int → Option (Sum (Unit × Unit) (Unit × (Int × Unit)))
  | 0, _, _, _, _ => none
  | n + 1, s_0, f_1, t_7, t_8 =>
    cond (decide (t_8 < t_7))
      (
      cond (decide ((0 : Int) ≤ t_8))
        (
        cond (decide ((Int.toNat t_8) < (List.length s_0)))
          (
          Option.bind (F_arena_Arena_Drop_1 N (List.getD s_0 (Int.toNat t_8) ((0 : Int), (0 : Int))) f_1) fun y1 =>
          cond ((y1).2).1
            (
            some (Sum.inr ((), (t_8, ()))))
            (
            (g_slices_IndexFunc_arena_block_0 N n s_0 f_1 t_7 (wi64 (t_8 + (1 : Int))))))
          (
          none))
        (
        none))
      (
      some (Sum.inl ((), ())))

def F_slices_IndexFunc_arena_block (N : Nat) (s_0 : List ((Int × Int))) (f_1 : Int) : Option (Unit × (Int × Unit)) :=
  Option.bind (g_slices_IndexFunc_arena_block_0 N N s_0 f_1 (Nat.cast (List.length s_0) : Int) (0 : Int)) fun y0 =>
  Sum.elim (fun y1 =>
    some ((), ((-(1 : Int)), ())))
    (fun y2 =>
    some ((), (y2).2)) y0

abbrev c_slices_IndexFunc_arena_block (N : Nat) : CallSpec E := ⟨28, ps_slices_IndexFunc_arena_block, rs_slices_IndexFunc_arena_block, fun x => F_slices_IndexFunc_arena_block N x.2.1 x.2.2.1⟩
abbrev l_slices_IndexFunc_arena_block_0 (N : Nat) : LoopSpec E [] := ⟨0, h_slices_IndexFunc_arena_block_0, e_slices_IndexFunc_arena_block_0, fun x => g_slices_IndexFunc_arena_block_0 N N x.2.1 x.2.2.1 x.2.2.2.1 x.2.2.2.2.1⟩

theorem cs_slices_IndexFunc_arena_block_ok (S : Ini) (N : Nat) : CallsOK Go.Proofs.Tryd.prog E S (cs_slices_IndexFunc_arena_block N) :=
  .cons (F_arena_Arena_Drop_1_ok S N) (.nil)
noncomputable abbrev b_slices_IndexFunc_arena_block_0 : Code := (loopsOf b_slices_IndexFunc_arena_block).getD 0 .skip
theorem g_slices_IndexFunc_arena_block_0_ok (S : Ini) (N : Nat) : ∀ n x y, (fun (x : StV E [] h_slices_IndexFunc_arena_block_0) => g_slices_IndexFunc_arena_block_0 N n x.2.1 x.2.2.1 x.2.2.2.1 x.2.2.2.2.1) x = some y → LoopCon Go.Proofs.Tryd.prog E S b_slices_IndexFunc_arena_block_0 (encSlots E [] h_slices_IndexFunc_arena_block_0 x) (encEx E [] e_slices_IndexFunc_arena_block_0 y).1 (encEx E [] e_slices_IndexFunc_arena_block_0 y).2 :=
  loop_specJ E_ok mixed (E_ok.ks 28) (cs_slices_IndexFunc_arena_block_ok S N) (all := loopsOf b_slices_IndexFunc_arena_block) (ls := []) (.nil) (js := []) (i := 0) (by kernel_rfl) (inner_of (by kernel_rfl)) (head := h_slices_IndexFunc_arena_block_0) (ex := e_slices_IndexFunc_arena_block_0) (fun n (x : StV E [] h_slices_IndexFunc_arena_block_0) => g_slices_IndexFunc_arena_block_0 N n x.2.1 x.2.2.1 x.2.2.2.1 x.2.2.2.2.1) (fun _ => rfl) (fun n x => by kernel_rfl)
theorem F_slices_IndexFunc_arena_block_ok (S : Ini) (N : Nat) : ∀ x y, (c_slices_IndexFunc_arena_block N).g x = some y → FCon Go.Proofs.Tryd.prog E S 28 ps_slices_IndexFunc_arena_block rs_slices_IndexFunc_arena_block x y := by
  intro x y h
  exact fun_specJ E_ok mixed (cs_slices_IndexFunc_arena_block_ok S N) (f := 28) (fi := ⟨b_slices_IndexFunc_arena_block, 19, Go.Proofs.Tryd.f28.results.toList⟩) (by kernel_rfl) (ls := [l_slices_IndexFunc_arena_block_0 N]) (.cons (by kernel_rfl) (g_slices_IndexFunc_arena_block_0_ok S N N) (.nil)) (js := []) (by kernel_rfl) (ps := ps_slices_IndexFunc_arena_block) (rs := rs_slices_IndexFunc_arena_block) (Eq.trans (b := F_slices_IndexFunc_arena_block N x.2.1 x.2.2.1) (by kernel_rfl) h)

/-! (*lodge/arena.Arena).Drop -/

abbrev ps_arena_Arena_Drop : List Ty := [(.hd 0), (.int .i64), (.int .i64)]
abbrev rs_arena_Arena_Drop : List Slot := [.data .bool]
abbrev cs_arena_Arena_Drop (N : Nat) : List (CallSpec E) := [c_arena_Arena_find N, c_arena_Arena_Drop_1 N, c_slices_IndexFunc_arena_block N]
noncomputable abbrev b_arena_Arena_Drop : Code := (Go.Proofs.Tryd.f14.body).getD .skip

def F_arena_Arena_Drop (N : Nat) (T0 : List (List Int × (List (Option Nat) × Unit))) (T1 : List (Int × (Int × (Int × (List ((Int × Int)) × Unit))))) (a_0 : Option Nat) (id_1 : Int) (off_2 : Int) : Option ((List (List Int × (List (Option Nat) × Unit)) × (List (Int × (Int × (Int × (List ((Int × Int)) × Unit)))) × Unit)) × (Bool × Unit)) :=
  Option.bind (F_arena_Arena_find N T0 T1 a_0 id_1) fun y0 =>
  cond (@Option.isNone Nat ((y0).2).1)
    (
    some ((y0).1, (false, ())))
    (
    cond (@Option.isSome Nat ((y0).2).1)
      (
      cond (decide (((0 : Nat) + (List.length (((((List.getD (((y0).1).2).1 (@Option.getD Nat ((y0).2).1 (0 : Nat)) ((0 : Int), ((0 : Int), ((0 : Int), (([] : List (Int × Int)), ())))))).2).2).2).1)) ≤ (List.length (((((List.getD (((y0).1).2).1 (@Option.getD Nat ((y0).2).1 (0 : Nat)) ((0 : Int), ((0 : Int), ((0 : Int), (([] : List (Int × Int)), ())))))).2).2).2).1)))
        (
        Option.bind (F_slices_IndexFunc_arena_block N (List.take (List.length (((((List.getD (((y0).1).2).1 (@Option.getD Nat ((y0).2).1 (0 : Nat)) ((0 : Int), ((0 : Int), ((0 : Int), (([] : List (Int × Int)), ())))))).2).2).2).1) (((((List.getD (((y0).1).2).1 (@Option.getD Nat ((y0).2).1 (0 : Nat)) ((0 : Int), ((0 : Int), ((0 : Int), (([] : List (Int × Int)), ())))))).2).2).2).1) off_2) fun y1 =>
        cond (decide (((y1).2).1 < (0 : Int)))
          (
          some ((y0).1, (false, ())))
          (
          cond (@Option.isSome Nat a_0)
            (
            cond (@Option.isSome Nat ((y0).2).1)
              (
              cond (@Option.isSome Nat ((y0).2).1)
                (
                cond (@Option.isSome Nat ((y0).2).1)
                  (
                  cond (decide ((0 : Int) ≤ ((y1).2).1))
                    (
                    cond (decide ((Int.toNat ((y1).2).1) < (List.length (((((List.getD (((y0).1).2).1 (@Option.getD Nat ((y0).2).1 (0 : Nat)) ((0 : Int), ((0 : Int), ((0 : Int), (([] : List (Int × Int)), ())))))).2).2).2).1)))
                      (
                      cond (decide (((0 : Nat) + (Int.toNat ((y1).2).1)) < (List.length (((((List.getD (((y0).1).2).1 (@Option.getD Nat ((y0).2).1 (0 : Nat)) ((0 : Int), ((0 : Int), ((0 : Int), (([] : List (Int × Int)), ())))))).2).2).2).1)))
                        (
                        cond (decide ((0 : Int) ≤ (wi64 ((((List.getD (((y0).1).2).1 (@Option.getD Nat ((y0).2).1 (0 : Nat)) ((0 : Int), ((0 : Int), ((0 : Int), (([] : List (Int × Int)), ())))))).2).1 + off_2))))
                          (
                          cond (decide ((0 : Int) ≤ (wi64 ((wi64 ((((List.getD (((y0).1).2).1 (@Option.getD Nat ((y0).2).1 (0 : Nat)) ((0 : Int), ((0 : Int), ((0 : Int), (([] : List (Int × Int)), ())))))).2).1 + off_2)) + ((List.getD (((((List.getD (((y0).1).2).1 (@Option.getD Nat ((y0).2).1 (0 : Nat)) ((0 : Int), ((0 : Int), ((0 : Int), (([] : List (Int × Int)), ())))))).2).2).2).1 ((0 : Nat) + (Int.toNat ((y1).2).1)) ((0 : Int), (0 : Int)))).2))))
                            (
                            cond (decide ((Int.toNat (wi64 ((((List.getD (((y0).1).2).1 (@Option.getD Nat ((y0).2).1 (0 : Nat)) ((0 : Int), ((0 : Int), ((0 : Int), (([] : List (Int × Int)), ())))))).2).1 + off_2))) ≤ (Int.toNat (wi64 ((wi64 ((((List.getD (((y0).1).2).1 (@Option.getD Nat ((y0).2).1 (0 : Nat)) ((0 : Int), ((0 : Int), ((0 : Int), (([] : List (Int × Int)), ())))))).2).1 + off_2)) + ((List.getD (((((List.getD (((y0).1).2).1 (@Option.getD Nat ((y0).2).1 (0 : Nat)) ((0 : Int), ((0 : Int), ((0 : Int), (([] : List (Int × Int)), ())))))).2).2).2).1 ((0 : Nat) + (Int.toNat ((y1).2).1)) ((0 : Int), (0 : Int)))).2)))))
                              (
                              cond (decide ((Int.toNat (wi64 ((wi64 ((((List.getD (((y0).1).2).1 (@Option.getD Nat ((y0).2).1 (0 : Nat)) ((0 : Int), ((0 : Int), ((0 : Int), (([] : List (Int × Int)), ())))))).2).1 + off_2)) + ((List.getD (((((List.getD (((y0).1).2).1 (@Option.getD Nat ((y0).2).1 (0 : Nat)) ((0 : Int), ((0 : Int), ((0 : Int), (([] : List (Int × Int)), ())))))).2).2).2).1 ((0 : Nat) + (Int.toNat ((y1).2).1)) ((0 : Int), (0 : Int)))).2))) ≤ (List.length ((List.getD ((y0).1).1 (@Option.getD Nat a_0 (0 : Nat)) (([] : List Int), (([] : List (Option Nat)), ())))).1)))
                                (
                                cond (decide ((((0 : Nat) + (Int.toNat (wi64 ((((List.getD (((y0).1).2).1 (@Option.getD Nat ((y0).2).1 (0 : Nat)) ((0 : Int), ((0 : Int), ((0 : Int), (([] : List (Int × Int)), ())))))).2).1 + off_2)))) + ((Int.toNat (wi64 ((wi64 ((((List.getD (((y0).1).2).1 (@Option.getD Nat ((y0).2).1 (0 : Nat)) ((0 : Int), ((0 : Int), ((0 : Int), (([] : List (Int × Int)), ())))))).2).1 + off_2)) + ((List.getD (((((List.getD (((y0).1).2).1 (@Option.getD Nat ((y0).2).1 (0 : Nat)) ((0 : Int), ((0 : Int), ((0 : Int), (([] : List (Int × Int)), ())))))).2).2).2).1 ((0 : Nat) + (Int.toNat ((y1).2).1)) ((0 : Int), (0 : Int)))).2))) - (Int.toNat (wi64 ((((List.getD (((y0).1).2).1 (@Option.getD Nat ((y0).2).1 (0 : Nat)) ((0 : Int), ((0 : Int), ((0 : Int), (([] : List (Int × Int)), ())))))).2).1 + off_2))))) ≤ (List.length ((List.getD ((y0).1).1 (@Option.getD Nat a_0 (0 : Nat)) (([] : List Int), (([] : List (Option Nat)), ())))).1)))
                                  (
                                  cond (@Option.isSome Nat ((y0).2).1)
                                    (
                                    cond (decide (((0 : Nat) + (List.length (((((List.getD (((y0).1).2).1 (@Option.getD Nat ((y0).2).1 (0 : Nat)) ((0 : Int), ((0 : Int), ((0 : Int), (([] : List (Int × Int)), ())))))).2).2).2).1)) = (List.length (((((List.getD (((y0).1).2).1 (@Option.getD Nat ((y0).2).1 (0 : Nat)) ((0 : Int), ((0 : Int), ((0 : Int), (([] : List (Int × Int)), ())))))).2).2).2).1)))
                                      (
                                      cond (decide ((0 : Nat) < (List.length (List.take (List.length (((((List.getD (((y0).1).2).1 (@Option.getD Nat ((y0).2).1 (0 : Nat)) ((0 : Int), ((0 : Int), ((0 : Int), (([] : List (Int × Int)), ())))))).2).2).2).1) (((((List.getD (((y0).1).2).1 (@Option.getD Nat ((y0).2).1 (0 : Nat)) ((0 : Int), ((0 : Int), ((0 : Int), (([] : List (Int × Int)), ())))))).2).2).2).1))))
                                        (
                                        cond (decide ((0 : Int) ≤ ((y1).2).1))
                                          (
                                          cond (decide ((Int.toNat ((y1).2).1) ≤ (Int.toNat (wi64 (((y1).2).1 + (1 : Int))))))
                                            (
                                            cond (decide ((0 : Int) ≤ (wi64 (((y1).2).1 + (1 : Int)))))
                                              (
                                              cond (decide ((Int.toNat (wi64 (((y1).2).1 + (1 : Int)))) ≤ (List.length (List.take (List.length (((((List.getD (((y0).1).2).1 (@Option.getD Nat ((y0).2).1 (0 : Nat)) ((0 : Int), ((0 : Int), ((0 : Int), (([] : List (Int × Int)), ())))))).2).2).2).1) (((((List.getD (((y0).1).2).1 (@Option.getD Nat ((y0).2).1 (0 : Nat)) ((0 : Int), ((0 : Int), ((0 : Int), (([] : List (Int × Int)), ())))))).2).2).2).1))))
                                                (
                                                cond (@Option.isSome Nat ((y0).2).1)
                                                  (
                                                  cond (decide (((0 : Nat) + ((List.length (List.take (List.length (((((List.getD (((y0).1).2).1 (@Option.getD Nat ((y0).2).1 (0 : Nat)) ((0 : Int), ((0 : Int), ((0 : Int), (([] : List (Int × Int)), ())))))).2).2).2).1) (((((List.getD (((y0).1).2).1 (@Option.getD Nat ((y0).2).1 (0 : Nat)) ((0 : Int), ((0 : Int), ((0 : Int), (([] : List (Int × Int)), ())))))).2).2).2).1)) - ((Int.toNat (wi64 (((y1).2).1 + (1 : Int)))) - (Int.toNat ((y1).2).1)))) ≤ (List.length ((List.take (Int.toNat ((y1).2).1) (List.take (List.length (((((List.getD (((y0).1).2).1 (@Option.getD Nat ((y0).2).1 (0 : Nat)) ((0 : Int), ((0 : Int), ((0 : Int), (([] : List (Int × Int)), ())))))).2).2).2).1) (((((List.getD (((y0).1).2).1 (@Option.getD Nat ((y0).2).1 (0 : Nat)) ((0 : Int), ((0 : Int), ((0 : Int), (([] : List (Int × Int)), ())))))).2).2).2).1)) ++ (List.drop (Int.toNat (wi64 (((y1).2).1 + (1 : Int)))) (List.take (List.length (((((List.getD (((y0).1).2).1 (@Option.getD Nat ((y0).2).1 (0 : Nat)) ((0 : Int), ((0 : Int), ((0 : Int), (([] : List (Int × Int)), ())))))).2).2).2).1) (((((List.getD (((y0).1).2).1 (@Option.getD Nat ((y0).2).1 (0 : Nat)) ((0 : Int), ((0 : Int), ((0 : Int), (([] : List (Int × Int)), ())))))).2).2).2).1))))))
                                                    (
                                                    cond (decide ((@Option.getD Nat ((y0).2).1 (0 : Nat)) = (@Option.getD Nat ((y0).2).1 (0 : Nat))))
                                                      (
                                                      some (((List.set ((y0).1).1 (@Option.getD Nat a_0 (0 : Nat)) ((((List.take ((0 : Nat) + (Int.toNat (wi64 ((((List.getD (((y0).1).2).1 (@Option.getD Nat ((y0).2).1 (0 : Nat)) ((0 : Int), ((0 : Int), ((0 : Int), (([] : List (Int × Int)), ())))))).2).1 + off_2)))) ((List.getD ((y0).1).1 (@Option.getD Nat a_0 (0 : Nat)) (([] : List Int), (([] : List (Option Nat)), ())))).1) ++ (List.replicate ((Int.toNat (wi64 ((wi64 ((((List.getD (((y0).1).2).1 (@Option.getD Nat ((y0).2).1 (0 : Nat)) ((0 : Int), ((0 : Int), ((0 : Int), (([] : List (Int × Int)), ())))))).2).1 + off_2)) + ((List.getD (((((List.getD (((y0).1).2).1 (@Option.getD Nat ((y0).2).1 (0 : Nat)) ((0 : Int), ((0 : Int), ((0 : Int), (([] : List (Int × Int)), ())))))).2).2).2).1 ((0 : Nat) + (Int.toNat ((y1).2).1)) ((0 : Int), (0 : Int)))).2))) - (Int.toNat (wi64 ((((List.getD (((y0).1).2).1 (@Option.getD Nat ((y0).2).1 (0 : Nat)) ((0 : Int), ((0 : Int), ((0 : Int), (([] : List (Int × Int)), ())))))).2).1 + off_2)))) (0 : Int))) ++ (List.drop (((0 : Nat) + (Int.toNat (wi64 ((((List.getD (((y0).1).2).1 (@Option.getD Nat ((y0).2).1 (0 : Nat)) ((0 : Int), ((0 : Int), ((0 : Int), (([] : List (Int × Int)), ())))))).2).1 + off_2)))) + ((Int.toNat (wi64 ((wi64 ((((List.getD (((y0).1).2).1 (@Option.getD Nat ((y0).2).1 (0 : Nat)) ((0 : Int), ((0 : Int), ((0 : Int), (([] : List (Int × Int)), ())))))).2).1 + off_2)) + ((List.getD (((((List.getD (((y0).1).2).1 (@Option.getD Nat ((y0).2).1 (0 : Nat)) ((0 : Int), ((0 : Int), ((0 : Int), (([] : List (Int × Int)), ())))))).2).2).2).1 ((0 : Nat) + (Int.toNat ((y1).2).1)) ((0 : Int), (0 : Int)))).2))) - (Int.toNat (wi64 ((((List.getD (((y0).1).2).1 (@Option.getD Nat ((y0).2).1 (0 : Nat)) ((0 : Int), ((0 : Int), ((0 : Int), (([] : List (Int × Int)), ())))))).2).1 + off_2))))) ((List.getD ((y0).1).1 (@Option.getD Nat a_0 (0 : Nat)) (([] : List Int), (([] : List (Option Nat)), ())))).1)), ((List.getD ((y0).1).1 (@Option.getD Nat a_0 (0 : Nat)) (([] : List Int), (([] : List (Option Nat)), ())))).2)), ((List.set (((y0).1).2).1 (@Option.getD Nat ((y0).2).1 (0 : Nat)) (((List.getD (((y0).1).2).1 (@Option.getD Nat ((y0).2).1 (0 : Nat)) ((0 : Int), ((0 : Int), ((0 : Int), (([] : List (Int × Int)), ())))))).1, ((((List.getD (((y0).1).2).1 (@Option.getD Nat ((y0).2).1 (0 : Nat)) ((0 : Int), ((0 : Int), ((0 : Int), (([] : List (Int × Int)), ())))))).2).1, (((((List.getD (((y0).1).2).1 (@Option.getD Nat ((y0).2).1 (0 : Nat)) ((0 : Int), ((0 : Int), ((0 : Int), (([] : List (Int × Int)), ())))))).2).2).1, ((List.take ((List.length (List.take (List.length (((((List.getD (((y0).1).2).1 (@Option.getD Nat ((y0).2).1 (0 : Nat)) ((0 : Int), ((0 : Int), ((0 : Int), (([] : List (Int × Int)), ())))))).2).2).2).1) (((((List.getD (((y0).1).2).1 (@Option.getD Nat ((y0).2).1 (0 : Nat)) ((0 : Int), ((0 : Int), ((0 : Int), (([] : List (Int × Int)), ())))))).2).2).2).1)) - ((Int.toNat (wi64 (((y1).2).1 + (1 : Int)))) - (Int.toNat ((y1).2).1))) ((List.take (Int.toNat ((y1).2).1) (List.take (List.length (((((List.getD (((y0).1).2).1 (@Option.getD Nat ((y0).2).1 (0 : Nat)) ((0 : Int), ((0 : Int), ((0 : Int), (([] : List (Int × Int)), ())))))).2).2).2).1) (((((List.getD (((y0).1).2).1 (@Option.getD Nat ((y0).2).1 (0 : Nat)) ((0 : Int), ((0 : Int), ((0 : Int), (([] : List (Int × Int)), ())))))).2).2).2).1)) ++ (List.drop (Int.toNat (wi64 (((y1).2).1 + (1 : Int)))) (List.take (List.length (((((List.getD (((y0).1).2).1 (@Option.getD Nat ((y0).2).1 (0 : Nat)) ((0 : Int), ((0 : Int), ((0 : Int), (([] : List (Int × Int)), ())))))).2).2).2).1) (((((List.getD (((y0).1).2).1 (@Option.getD Nat ((y0).2).1 (0 : Nat)) ((0 : Int), ((0 : Int), ((0 : Int), (([] : List (Int × Int)), ())))))).2).2).2).1)))), (((((List.getD (((y0).1).2).1 (@Option.getD Nat ((y0).2).1 (0 : Nat)) ((0 : Int), ((0 : Int), ((0 : Int), (([] : List (Int × Int)), ())))))).2).2).2).2))))), ())), (true, ())))
                                                      (
                                                      none))
                                                    (
                                                    none))
                                                  (
                                                  none))
                                                (
                                                none))
                                              (
                                              none))
                                            (
                                            none))
                                          (
                                          none))
                                        (
                                        none))
                                      (
                                      none))
                                    (
                                    none))
                                  (
                                  none))
                                (
                                none))
                              (
                              none))
                            (
                            none))
                          (
                          none))
                        (
                        none))
                      (
                      none))
                    (
                    none))
                  (
                  none))
                (
                none))
              (
              none))
            (
            none)))
        (
        none))
      (
      none))

abbrev c_arena_Arena_Drop (N : Nat) : CallSpec E := ⟨14, ps_arena_Arena_Drop, rs_arena_Arena_Drop, fun x => F_arena_Arena_Drop N x.1.1 x.1.2.1 x.2.1 x.2.2.1 x.2.2.2.1⟩

theorem cs_arena_Arena_Drop_ok (S : Ini) (N : Nat) : CallsOK Go.Proofs.Tryd.prog E S (cs_arena_Arena_Drop N) :=
  .cons (F_arena_Arena_find_ok S N) (.cons (F_arena_Arena_Drop_1_ok S N) (.cons (F_slices_IndexFunc_arena_block_ok S N) (.nil)))
theorem F_arena_Arena_Drop_ok (S : Ini) (N : Nat) : ∀ x y, (c_arena_Arena_Drop N).g x = some y → FCon Go.Proofs.Tryd.prog E S 14 ps_arena_Arena_Drop rs_arena_Arena_Drop x y := by
  intro x y h
  exact fun_specJ E_ok mixed (cs_arena_Arena_Drop_ok S N) (f := 14) (fi := ⟨b_arena_Arena_Drop, 61, Go.Proofs.Tryd.f14.results.toList⟩) (by kernel_rfl) (ls := []) (.nil) (js := []) (by kernel_rfl) (ps := ps_arena_Arena_Drop) (rs := rs_arena_Arena_Drop) (Eq.trans (b := F_arena_Arena_Drop N x.1.1 x.1.2.1 x.2.1 x.2.2.1 x.2.2.2.1) (by kernel_rfl) h)

/-! lodge/lodgelaw13.first -/

abbrev ps_lodgelaw13_first : List Ty := []
abbrev rs_lodgelaw13_first : List Slot := [.data .bool]
abbrev cs_lodgelaw13_first (N : Nat) : List (CallSpec E) := [c_arena_New N, c_arena_Arena_Add N, c_arena_Arena_Take N, c_arena_Arena_Drop N]
noncomputable abbrev b_lodgelaw13_first : Code := (Go.Proofs.Tryd.f7.body).getD .skip

def F_lodgelaw13_first (N : Nat) (T0 : List (List Int × (List (Option Nat) × Unit))) (T1 : List (Int × (Int × (Int × (List ((Int × Int)) × Unit))))) : Option ((List (List Int × (List (Option Nat) × Unit)) × (List (Int × (Int × (Int × (List ((Int × Int)) × Unit)))) × Unit)) × (Bool × Unit)) :=
  Option.bind (F_arena_New N T0 T1 (100 : Int)) fun y0 =>
  cond (@Option.isNone Nat ((y0).2).1)
    (
    some ((y0).1, (false, ())))
    (
    cond (Bool.not (Go.Eng.Er.isNil (((y0).2).2).1))
      (
      some ((y0).1, (false, ())))
      (
      Option.bind (F_arena_Arena_Add N ((y0).1).1 (((y0).1).2).1 ((y0).2).1 (1 : Int) (50 : Int)) fun y1 =>
      Option.bind (F_arena_Arena_Take N ((y1).1).1 (((y1).1).2).1 ((y0).2).1 (1 : Int) (4 : Int)) fun y2 =>
      Option.bind (F_arena_Arena_Take N ((y2).1).1 (((y2).1).2).1 ((y0).2).1 (1 : Int) (4 : Int)) fun y3 =>
      Option.bind (F_arena_Arena_Drop N ((y3).1).1 (((y3).1).2).1 ((y0).2).1 (1 : Int) ((y2).2).1) fun y4 =>
      Option.bind (F_arena_Arena_Take N ((y4).1).1 (((y4).1).2).1 ((y0).2).1 (1 : Int) (2 : Int)) fun y5 =>
      cond (Go.Eng.Er.isNil (((y1).2).2).1)
        (
        cond (Go.Eng.Er.isNil (((y2).2).2).1)
          (
          cond (Go.Eng.Er.isNil (((y3).2).2).1)
            (
            cond (Go.Eng.Er.isNil (((y5).2).2).1)
              (
              cond ((y4).2).1
                (
                cond (decide (((y2).2).1 = (0 : Int)))
                  (
                  cond (decide (((y3).2).1 = (4 : Int)))
                    (
                    some ((y5).1, ((decide (((y5).2).1 = (0 : Int))), ())))
                    (
                    some ((y5).1, (false, ()))))
                  (
                  some ((y5).1, (false, ()))))
                (
                some ((y5).1, (false, ()))))
              (
              some ((y5).1, (false, ()))))
            (
            some ((y5).1, (false, ()))))
          (
          some ((y5).1, (false, ()))))
        (
        some ((y5).1, (false, ())))))

abbrev c_lodgelaw13_first (N : Nat) : CallSpec E := ⟨7, ps_lodgelaw13_first, rs_lodgelaw13_first, fun x => F_lodgelaw13_first N x.1.1 x.1.2.1⟩

theorem cs_lodgelaw13_first_ok (S : Ini) (N : Nat) : CallsOK Go.Proofs.Tryd.prog E S (cs_lodgelaw13_first N) :=
  .cons (F_arena_New_ok S N) (.cons (F_arena_Arena_Add_ok S N) (.cons (F_arena_Arena_Take_ok S N) (.cons (F_arena_Arena_Drop_ok S N) (.nil))))
theorem F_lodgelaw13_first_ok (S : Ini) (N : Nat) : ∀ x y, (c_lodgelaw13_first N).g x = some y → FCon Go.Proofs.Tryd.prog E S 7 ps_lodgelaw13_first rs_lodgelaw13_first x y := by
  intro x y h
  exact fun_specJ E_ok mixed (cs_lodgelaw13_first_ok S N) (f := 7) (fi := ⟨b_lodgelaw13_first, 74, Go.Proofs.Tryd.f7.results.toList⟩) (by kernel_rfl) (ls := []) (.nil) (js := []) (by kernel_rfl) (ps := ps_lodgelaw13_first) (rs := rs_lodgelaw13_first) (Eq.trans (b := F_lodgelaw13_first N x.1.1 x.1.2.1) (by kernel_rfl) h)

/-! lodge/lodgeworld.Number -/

abbrev ps_lodgeworld_Number : List Ty := [(.int .i64), (.int .i64)]
abbrev rs_lodgeworld_Number : List Slot := [.data (.int .i64)]
abbrev cs_lodgeworld_Number (N : Nat) : List (CallSpec E) := []
noncomputable abbrev b_lodgeworld_Number : Code := (Go.Proofs.Tryd.f8.body).getD .skip

def F_lodgeworld_Number (N : Nat) (n_0 : Int) (below_1 : Int) : Option (Unit × (Int × Unit)) :=
  cond (decide (@Ne Int below_1 (0 : Int)))
    (
    cond (decide (@Ne Int below_1 (0 : Int)))
      (
      some ((), ((Int.tmod (wi64 ((Int.tmod n_0 below_1) + below_1)) below_1), ())))
      (
      none))
    (
    none)

abbrev c_lodgeworld_Number (N : Nat) : CallSpec E := ⟨8, ps_lodgeworld_Number, rs_lodgeworld_Number, fun x => F_lodgeworld_Number N x.2.1 x.2.2.1⟩

theorem cs_lodgeworld_Number_ok (S : Ini) (N : Nat) : CallsOK Go.Proofs.Tryd.prog E S (cs_lodgeworld_Number N) :=
  .nil
theorem F_lodgeworld_Number_ok (S : Ini) (N : Nat) : ∀ x y, (c_lodgeworld_Number N).g x = some y → FCon Go.Proofs.Tryd.prog E S 8 ps_lodgeworld_Number rs_lodgeworld_Number x y := by
  intro x y h
  exact fun_specJ E_ok mixed (cs_lodgeworld_Number_ok S N) (f := 8) (fi := ⟨b_lodgeworld_Number, 12, Go.Proofs.Tryd.f8.results.toList⟩) (by kernel_rfl) (ls := []) (.nil) (js := []) (by kernel_rfl) (ps := ps_lodgeworld_Number) (rs := rs_lodgeworld_Number) (Eq.trans (b := F_lodgeworld_Number N x.2.1 x.2.2.1) (by kernel_rfl) h)

/-! (*lodge/arena.Arena).within -/

abbrev ps_arena_Arena_within : List Ty := [(.hd 0), (.int .i64), (.int .i64), (.int .i64)]
abbrev rs_arena_Arena_within : List Slot := [.bor (.int .u8) 0 1, .data .bool]
abbrev cs_arena_Arena_within (N : Nat) : List (CallSpec E) := [c_arena_Arena_find N]
noncomputable abbrev b_arena_Arena_within : Code := (Go.Proofs.Tryd.f33.body).getD .skip

abbrev h_arena_Arena_within_0 : List Slot := [.data (.hd 0), .dead, .data (.int .i64), .data (.int .i64), .dead, .dead, .dead, .dead, .dead, .dead, .data (.hd 1), .dead, .dead, .dead, .dead, .dead, .dead, .dead, .dead, .dead, .dead, .dead, .dead, .dead, .dead, .bor (.st (.pair (.int .i64) (.int .i64))) 1 1, .data (.int .i64), .data (.int .i64), .dead, .dead, .dead, .dead, .dead, .dead, .dead, .dead, .dead, .dead, .dead, .dead, .dead, .dead, .dead, .dead, .dead, .dead, .dead, .dead, .dead, .dead, .dead, .dead, .dead, .dead, .dead, .dead, .dead, .dead, .dead, .dead, .dead, .dead, .dead, .dead, .dead, .dead, .dead, .dead, .dead, .dead, .dead, .dead, .dead, .dead, .dead, .dead, .dead]
abbrev e_arena_Arena_within_0 : List (AX × List Slot) := [(AX.exit 0, [.dead, .dead, .dead, .dead, .dead, .dead, .dead, .dead, .dead, .dead, .dead, .dead, .dead, .dead, .dead, .dead, .dead, .dead, .dead, .dead, .dead, .dead, .dead, .dead, .dead, .dead, .dead, .dead, .dead, .dead, .dead, .dead, .dead, .dead, .dead, .dead, .dead, .dead, .dead, .dead, .dead, .dead, .dead, .dead, .dead, .dead, .dead, .dead, .dead, .dead, .dead, .dead, .dead, .dead, .dead, .dead, .dead, .dead, .dead, .dead, .dead, .dead, .dead, .dead, .dead, .dead, .dead, .dead, .dead, .dead, .dead, .dead, .dead, .dead, .dead, .dead, .dead]), (AX.ret, [.dead, .dead, .dead, .dead, .dead, .dead, .dead, .dead, .bor (.int .u8) 0 1, .data .bool, .dead, .dead, .dead, .dead, .dead, .dead, .dead, .dead, .dead, .dead, .dead, .dead, .dead, .dead, .dead, .dead, .dead, .dead, .dead, .dead, .dead, .dead, .dead, .dead, .dead, .dead, .dead, .dead, .dead, .dead, .dead, .dead, .dead, .dead, .dead, .dead, .dead, .dead, .dead, .dead, .dead, .dead, .dead, .dead, .dead, .dead, .dead, .dead, .dead, .dead, .dead, .dead, .dead, .dead, .dead, .dead, .dead, .dead, .dead, .dead, .dead, .dead, .dead, .dead, .dead, .dead, .dead])]
def g_arena_Arena_within_0 (N : Nat) : Nat → List (List Int × (List (Option Nat) × Unit)) → List (Int × (Int × (Int × (List ((Int × Int)) × Unit)))) → Option Nat → Int → Int → Option Nat → (Nat × (Nat × Nat)) → Int → Int → Option (Sum ((List (List Int × (List (Option Nat) × Unit)) × (List (Int × (Int × (Int × (List ((Int × Int)) × Unit)))) × Unit)) × Unit) ((List (List Int × (List (Option Nat) × Unit)) × (List (Int × (Int × (Int × (List ((Int × Int)) × Unit)))) × Unit)) × ((Nat × (Nat × Nat)) × (Bool × Unit))))
  | 0, _, _, _, _, _, _, _, _, _ => none
  | n + 1, T0, T1, a_0, off_2, n_3, p_10, t_25, t_26, t_27 =>
    cond (decide (t_27 < t_26))
      (
      cond (decide ((0 : Int) ≤ t_27))
        (
        cond (decide ((Int.toNat t_27) < ((t_25).2).2))
          (
          cond (decide ((((t_25).2).1 + (Int.toNat t_27)) < (List.length (((((List.getD T1 (t_25).1 ((0 : Int), ((0 : Int), ((0 : Int), (([] : List (Int × Int)), ())))))).2).2).2).1)))
            (
            cond (decide (((List.getD (((((List.getD T1 (t_25).1 ((0 : Int), ((0 : Int), ((0 : Int), (([] : List (Int × Int)), ())))))).2).2).2).1 (((t_25).2).1 + (Int.toNat t_27)) ((0 : Int), (0 : Int)))).1 ≤ off_2))
              (
              cond (decide (off_2 ≤ (wi64 (((List.getD (((((List.getD T1 (t_25).1 ((0 : Int), ((0 : Int), ((0 : Int), (([] : List (Int × Int)), ())))))).2).2).2).1 (((t_25).2).1 + (Int.toNat t_27)) ((0 : Int), (0 : Int)))).1 + ((List.getD (((((List.getD T1 (t_25).1 ((0 : Int), ((0 : Int), ((0 : Int), (([] : List (Int × Int)), ())))))).2).2).2).1 (((t_25).2).1 + (Int.toNat t_27)) ((0 : Int), (0 : Int)))).2))))
                (
                cond (decide (n_3 ≤ (wi64 ((wi64 (((List.getD (((((List.getD T1 (t_25).1 ((0 : Int), ((0 : Int), ((0 : Int), (([] : List (Int × Int)), ())))))).2).2).2).1 (((t_25).2).1 + (Int.toNat t_27)) ((0 : Int), (0 : Int)))).1 + ((List.getD (((((List.getD T1 (t_25).1 ((0 : Int), ((0 : Int), ((0 : Int), (([] : List (Int × Int)), ())))))).2).2).2).1 (((t_25).2).1 + (Int.toNat t_27)) ((0 : Int), (0 : Int)))).2)) - off_2))))
                  (
                  cond (@Option.isSome Nat a_0)
                    (
                    cond (@Option.isSome Nat p_10)
                      (
                      cond (@Option.isSome Nat p_10)
                        (
                        cond (decide ((0 : Int) ≤ (wi64 ((((List.getD T1 (@Option.getD Nat p_10 (0 : Nat)) ((0 : Int), ((0 : Int), ((0 : Int), (([] : List (Int × Int)), ())))))).2).1 + off_2))))
                          (
                          cond (decide ((0 : Int) ≤ (wi64 ((wi64 ((((List.getD T1 (@Option.getD Nat p_10 (0 : Nat)) ((0 : Int), ((0 : Int), ((0 : Int), (([] : List (Int × Int)), ())))))).2).1 + off_2)) + n_3))))
                            (
                            cond (decide ((Int.toNat (wi64 ((((List.getD T1 (@Option.getD Nat p_10 (0 : Nat)) ((0 : Int), ((0 : Int), ((0 : Int), (([] : List (Int × Int)), ())))))).2).1 + off_2))) ≤ (Int.toNat (wi64 ((wi64 ((((List.getD T1 (@Option.getD Nat p_10 (0 : Nat)) ((0 : Int), ((0 : Int), ((0 : Int), (([] : List (Int × Int)), ())))))).2).1 + off_2)) + n_3)))))
                              (
                              cond (decide ((Int.toNat (wi64 ((wi64 ((((List.getD T1 (@Option.getD Nat p_10 (0 : Nat)) ((0 : Int), ((0 : Int), ((0 : Int), (([] : List (Int × Int)), ())))))).2).1 + off_2)) + n_3))) ≤ (List.length ((List.getD T0 (@Option.getD Nat a_0 (0 : Nat)) (([] : List Int), (([] : List (Option Nat)), ())))).1)))
                                (
                                some (Sum.inr ((T0, (T1, ())), (((@Option.getD Nat a_0 (0 : Nat)), (((0 : Nat) + (Int.toNat (wi64 ((((List.getD T1 (@Option.getD Nat p_10 (0 : Nat)) ((0 : Int), ((0 : Int), ((0 : Int), (([] : List (Int × Int)), ())))))).2).1 + off_2)))), ((Int.toNat (wi64 ((wi64 ((((List.getD T1 (@Option.getD Nat p_10 (0 : Nat)) ((0 : Int), ((0 : Int), ((0 : Int), (([] : List (Int × Int)), ())))))).2).1 + off_2)) + n_3))) - (Int.toNat (wi64 ((((List.getD T1 (@Option.getD Nat p_10 (0 : Nat)) ((0 : Int), ((0 : Int), ((0 : Int), (([] : List (Int × Int)), ())))))).2).1 + off_2)))))), (true, ())))))
                                (
                                none))
                              (
                              none))
                            (
                            none))
                          (
                          none))
                        (
                        none))
                      (
                      none))
                    (
                    none))
                  (
                  (g_arena_Arena_within_0 N n T0 T1 a_0 off_2 n_3 p_10 t_25 t_26 (wi64 (t_27 + (1 : Int))))))
                (
                (g_arena_Arena_within_0 N n T0 T1 a_0 off_2 n_3 p_10 t_25 t_26 (wi64 (t_27 + (1 : Int))))))
              (
              (g_arena_Arena_within_0 N n T0 T1 a_0 off_2 n_3 p_10 t_25 t_26 (wi64 (t_27 + (1 : Int))))))
            (
            none))
          (
          none))
        (
        none))
      (
      some (Sum.inl ((T0, (T1, ())), ())))

def F_arena_Arena_within (N : Nat) (T0 : List (List Int × (List (Option Nat) × Unit))) (T1 : List (Int × (Int × (Int × (List ((Int × Int)) × Unit))))) (a_0 : Option Nat) (id_1 : Int) (off_2 : Int) (n_3 : Int) : Option ((List (List Int × (List (Option Nat) × Unit)) × (List (Int × (Int × (Int × (List ((Int × Int)) × Unit)))) × Unit)) × ((Nat × (Nat × Nat)) × (Bool × Unit))) :=
  Option.bind (F_arena_Arena_find N T0 T1 a_0 id_1) fun y0 =>
  cond (@Option.isNone Nat ((y0).2).1)
    (
    cond (decide ((0 : Nat) < (List.length ((y0).1).1)))
      (
      some ((y0).1, (((0 : Nat), ((0 : Nat), (0 : Nat))), (false, ()))))
      (
      none))
    (
    cond (decide (n_3 < (0 : Int)))
      (
      cond (decide ((0 : Nat) < (List.length ((y0).1).1)))
        (
        some ((y0).1, (((0 : Nat), ((0 : Nat), (0 : Nat))), (false, ()))))
        (
        none))
      (
      cond (@Option.isSome Nat ((y0).2).1)
        (
        Option.bind (g_arena_Arena_within_0 N N ((y0).1).1 (((y0).1).2).1 a_0 off_2 n_3 ((y0).2).1 ((@Option.getD Nat ((y0).2).1 (0 : Nat)), ((0 : Nat), (List.length (((((List.getD (((y0).1).2).1 (@Option.getD Nat ((y0).2).1 (0 : Nat)) ((0 : Int), ((0 : Int), ((0 : Int), (([] : List (Int × Int)), ())))))).2).2).2).1))) (Nat.cast (List.length (((((List.getD (((y0).1).2).1 (@Option.getD Nat ((y0).2).1 (0 : Nat)) ((0 : Int), ((0 : Int), ((0 : Int), (([] : List (Int × Int)), ())))))).2).2).2).1) : Int) (0 : Int)) fun y1 =>
        Sum.elim (fun y2 =>
          cond (decide ((0 : Nat) < (List.length ((y2).1).1)))
            (
            some ((y2).1, (((0 : Nat), ((0 : Nat), (0 : Nat))), (false, ()))))
            (
            none))
          (fun y3 =>
          some y3) y1)
        (
        none)))

abbrev c_arena_Arena_within (N : Nat) : CallSpec E := ⟨33, ps_arena_Arena_within, rs_arena_Arena_within, fun x => F_arena_Arena_within N x.1.1 x.1.2.1 x.2.1 x.2.2.1 x.2.2.2.1 x.2.2.2.2.1⟩
abbrev l_arena_Arena_within_0 (N : Nat) : LoopSpec E [0, 1] := ⟨0, h_arena_Arena_within_0, e_arena_Arena_within_0, fun x => g_arena_Arena_within_0 N N x.1.1 x.1.2.1 x.2.1 x.2.2.1 x.2.2.2.1 x.2.2.2.2.1 x.2.2.2.2.2.1 x.2.2.2.2.2.2.1 x.2.2.2.2.2.2.2.1⟩

theorem cs_arena_Arena_within_ok (S : Ini) (N : Nat) : CallsOK Go.Proofs.Tryd.prog E S (cs_arena_Arena_within N) :=
  .cons (F_arena_Arena_find_ok S N) (.nil)
noncomputable abbrev b_arena_Arena_within_0 : Code := (loopsOf b_arena_Arena_within).getD 0 .skip
theorem g_arena_Arena_within_0_ok (S : Ini) (N : Nat) : ∀ n x y, (fun (x : StV E [0, 1] h_arena_Arena_within_0) => g_arena_Arena_within_0 N n x.1.1 x.1.2.1 x.2.1 x.2.2.1 x.2.2.2.1 x.2.2.2.2.1 x.2.2.2.2.2.1 x.2.2.2.2.2.2.1 x.2.2.2.2.2.2.2.1) x = some y → LoopCon Go.Proofs.Tryd.prog E S b_arena_Arena_within_0 (encSlots E [0, 1] h_arena_Arena_within_0 x) (encEx E [0, 1] e_arena_Arena_within_0 y).1 (encEx E [0, 1] e_arena_Arena_within_0 y).2 :=
  loop_specJ E_ok mixed (E_ok.ks 33) (cs_arena_Arena_within_ok S N) (all := loopsOf b_arena_Arena_within) (ls := []) (.nil) (js := []) (i := 0) (by kernel_rfl) (inner_of (by kernel_rfl)) (head := h_arena_Arena_within_0) (ex := e_arena_Arena_within_0) (fun n (x : StV E [0, 1] h_arena_Arena_within_0) => g_arena_Arena_within_0 N n x.1.1 x.1.2.1 x.2.1 x.2.2.1 x.2.2.2.1 x.2.2.2.2.1 x.2.2.2.2.2.1 x.2.2.2.2.2.2.1 x.2.2.2.2.2.2.2.1) (fun _ => rfl) (fun n x => by kernel_rfl)
theorem F_arena_Arena_within_ok (S : Ini) (N : Nat) : ∀ x y, (c_arena_Arena_within N).g x = some y → FCon Go.Proofs.Tryd.prog E S 33 ps_arena_Arena_within rs_arena_Arena_within x y := by
  intro x y h
  exact fun_specJ E_ok mixed (cs_arena_Arena_within_ok S N) (f := 33) (fi := ⟨b_arena_Arena_within, 77, Go.Proofs.Tryd.f33.results.toList⟩) (by kernel_rfl) (ls := [l_arena_Arena_within_0 N]) (.cons (by kernel_rfl) (g_arena_Arena_within_0_ok S N N) (.nil)) (js := []) (by kernel_rfl) (ps := ps_arena_Arena_within) (rs := rs_arena_Arena_within) (Eq.trans (b := F_arena_Arena_within N x.1.1 x.1.2.1 x.2.1 x.2.2.1 x.2.2.2.1 x.2.2.2.2.1) (by kernel_rfl) h)

/-! (*lodge/arena.Arena).Write -/

abbrev ps_arena_Arena_Write : List Ty := [(.hd 0), (.int .i64), (.int .i64), (.sl (.int .u8))]
abbrev rs_arena_Arena_Write : List Slot := [.data .bool]
abbrev cs_arena_Arena_Write (N : Nat) : List (CallSpec E) := [c_arena_Arena_within N]
noncomputable abbrev b_arena_Arena_Write : Code := (Go.Proofs.Tryd.f17.body).getD .skip

def F_arena_Arena_Write (N : Nat) (T0 : List (List Int × (List (Option Nat) × Unit))) (T1 : List (Int × (Int × (Int × (List ((Int × Int)) × Unit))))) (a_0 : Option Nat) (id_1 : Int) (off_2 : Int) (b_3 : List Int) : Option ((List (List Int × (List (Option Nat) × Unit)) × (List (Int × (Int × (Int × (List ((Int × Int)) × Unit)))) × Unit)) × (Bool × Unit)) :=
  Option.bind (F_arena_Arena_within N T0 T1 a_0 id_1 off_2 (Nat.cast (List.length b_3) : Int)) fun y0 =>
  cond (decide ((((((y0).2).1).2).1 + ((((y0).2).1).2).2) ≤ (List.length ((List.getD ((y0).1).1 (((y0).2).1).1 (([] : List Int), (([] : List (Option Nat)), ())))).1)))
    (
    some (((List.set ((y0).1).1 (((y0).2).1).1 ((((List.take ((((y0).2).1).2).1 ((List.getD ((y0).1).1 (((y0).2).1).1 (([] : List Int), (([] : List (Option Nat)), ())))).1) ++ (List.take (@Min.min Nat instMinNat (List.length b_3) ((((y0).2).1).2).2) b_3)) ++ (List.drop (((((y0).2).1).2).1 + (@Min.min Nat instMinNat (List.length b_3) ((((y0).2).1).2).2)) ((List.getD ((y0).1).1 (((y0).2).1).1 (([] : List Int), (([] : List (Option Nat)), ())))).1)), ((List.getD ((y0).1).1 (((y0).2).1).1 (([] : List Int), (([] : List (Option Nat)), ())))).2)), ((y0).1).2), ((y0).2).2))
    (
    none)

abbrev c_arena_Arena_Write (N : Nat) : CallSpec E := ⟨17, ps_arena_Arena_Write, rs_arena_Arena_Write, fun x => F_arena_Arena_Write N x.1.1 x.1.2.1 x.2.1 x.2.2.1 x.2.2.2.1 x.2.2.2.2.1⟩

theorem cs_arena_Arena_Write_ok (S : Ini) (N : Nat) : CallsOK Go.Proofs.Tryd.prog E S (cs_arena_Arena_Write N) :=
  .cons (F_arena_Arena_within_ok S N) (.nil)
theorem F_arena_Arena_Write_ok (S : Ini) (N : Nat) : ∀ x y, (c_arena_Arena_Write N).g x = some y → FCon Go.Proofs.Tryd.prog E S 17 ps_arena_Arena_Write rs_arena_Arena_Write x y := by
  intro x y h
  exact fun_specJ E_ok mixed (cs_arena_Arena_Write_ok S N) (f := 17) (fi := ⟨b_arena_Arena_Write, 24, Go.Proofs.Tryd.f17.results.toList⟩) (by kernel_rfl) (ls := []) (.nil) (js := []) (by kernel_rfl) (ps := ps_arena_Arena_Write) (rs := rs_arena_Arena_Write) (Eq.trans (b := F_arena_Arena_Write N x.1.1 x.1.2.1 x.2.1 x.2.2.1 x.2.2.2.1 x.2.2.2.2.1) (by kernel_rfl) h)

/-! slices.Clone[[]byte,byte] -/

abbrev ps_slices_Clone_byte : List Ty := [(.sl (.int .u8))]
abbrev rs_slices_Clone_byte : List Slot := [.sl (.int .u8)]
abbrev cs_slices_Clone_byte (N : Nat) : List (CallSpec E) := []
noncomputable abbrev b_slices_Clone_byte : Code := (Go.Proofs.Tryd.f34.body).getD .skip

def F_slices_Clone_byte (N : Nat) (s_0 : List Int) : Option (Unit × (List Int × Unit)) :=
  cond (decide ((((0 : Nat) + (List.length s_0)) * (1 + (1 : Nat))) ≤ Go.Eng.most))
    (
    cond (decide (((0 : Nat) + (List.length s_0)) = (List.length (([] : List Int) ++ s_0))))
      (
      some ((), ((([] : List Int) ++ s_0), ())))
      (
      none))
    (
    none)

abbrev c_slices_Clone_byte (N : Nat) : CallSpec E := ⟨34, ps_slices_Clone_byte, rs_slices_Clone_byte, fun x => F_slices_Clone_byte N x.2.1⟩

theorem cs_slices_Clone_byte_ok (S : Ini) (N : Nat) : CallsOK Go.Proofs.Tryd.prog E S (cs_slices_Clone_byte N) :=
  .nil
theorem F_slices_Clone_byte_ok (S : Ini) (N : Nat) : ∀ x y, (c_slices_Clone_byte N).g x = some y → FCon Go.Proofs.Tryd.prog E S 34 ps_slices_Clone_byte rs_slices_Clone_byte x y := by
  intro x y h
  exact nil_spec E_ok mixed (f := 34) (fi := ⟨b_slices_Clone_byte, 8, Go.Proofs.Tryd.f34.results.toList⟩) (by kernel_rfl) (by kernel_rfl) (t := (.int .u8)) (T := x.1) (l := x.2.1) (rs := rs_slices_Clone_byte) (y := y) (Eq.trans (b := F_slices_Clone_byte N x.2.1) (by kernel_rfl) h) (fun hl => by
    have h' : F_slices_Clone_byte N x.2.1 = some y := h
    rw [hl] at h'
    exact (show funJKA E [] [] [] [] ⟨b_slices_Clone_byte, 8, Go.Proofs.Tryd.f34.results.toList⟩ [.v (.slice none 0 0)] (encTabs E.kinds [] x.1) rs_slices_Clone_byte = some (x.1, ([], ())) by kernel_rfl).trans ((show F_slices_Clone_byte N  [] = some (x.1, ([], ())) by kernel_rfl).symm.trans h'))

/-! (*lodge/arena.Arena).Read -/

abbrev ps_arena_Arena_Read : List Ty := [(.hd 0), (.int .i64), (.int .i64), (.int .i64)]
abbrev rs_arena_Arena_Read : List Slot := [.sl (.int .u8), .data .bool]
abbrev cs_arena_Arena_Read (N : Nat) : List (CallSpec E) := [c_arena_Arena_within N, c_slices_Clone_byte N]
noncomputable abbrev b_arena_Arena_Read : Code := (Go.Proofs.Tryd.f18.body).getD .skip

def F_arena_Arena_Read (N : Nat) (T0 : List (List Int × (List (Option Nat) × Unit))) (T1 : List (Int × (Int × (Int × (List ((Int × Int)) × Unit))))) (a_0 : Option Nat) (id_1 : Int) (off_2 : Int) (n_3 : Int) : Option ((List (List Int × (List (Option Nat) × Unit)) × (List (Int × (Int × (Int × (List ((Int × Int)) × Unit)))) × Unit)) × (List Int × (Bool × Unit))) :=
  Option.bind (F_arena_Arena_within N T0 T1 a_0 id_1 off_2 n_3) fun y0 =>
  cond (decide ((((((y0).2).1).2).1 + ((((y0).2).1).2).2) ≤ (List.length ((List.getD ((y0).1).1 (((y0).2).1).1 (([] : List Int), (([] : List (Option Nat)), ())))).1)))
    (
    Option.bind (F_slices_Clone_byte N (List.take ((((y0).2).1).2).2 (List.drop ((((y0).2).1).2).1 ((List.getD ((y0).1).1 (((y0).2).1).1 (([] : List Int), (([] : List (Option Nat)), ())))).1))) fun y1 =>
    cond (decide ((List.length ((y1).2).1) = (List.length ((y1).2).1)))
      (
      some ((y0).1, (((y1).2).1, ((y0).2).2)))
      (
      none))
    (
    none)

abbrev c_arena_Arena_Read (N : Nat) : CallSpec E := ⟨18, ps_arena_Arena_Read, rs_arena_Arena_Read, fun x => F_arena_Arena_Read N x.1.1 x.1.2.1 x.2.1 x.2.2.1 x.2.2.2.1 x.2.2.2.2.1⟩

theorem cs_arena_Arena_Read_ok (S : Ini) (N : Nat) : CallsOK Go.Proofs.Tryd.prog E S (cs_arena_Arena_Read N) :=
  .cons (F_arena_Arena_within_ok S N) (.cons (F_slices_Clone_byte_ok S N) (.nil))
theorem F_arena_Arena_Read_ok (S : Ini) (N : Nat) : ∀ x y, (c_arena_Arena_Read N).g x = some y → FCon Go.Proofs.Tryd.prog E S 18 ps_arena_Arena_Read rs_arena_Arena_Read x y := by
  intro x y h
  exact fun_specJ E_ok mixed (cs_arena_Arena_Read_ok S N) (f := 18) (fi := ⟨b_arena_Arena_Read, 23, Go.Proofs.Tryd.f18.results.toList⟩) (by kernel_rfl) (ls := []) (.nil) (js := []) (by kernel_rfl) (ps := ps_arena_Arena_Read) (rs := rs_arena_Arena_Read) (Eq.trans (b := F_arena_Arena_Read N x.1.1 x.1.2.1 x.2.1 x.2.2.1 x.2.2.2.1 x.2.2.2.2.1) (by kernel_rfl) h)


end Go.Proofs.YtnbpgehpjhifgaaDoor.Lx

/-
  The functions of the seat's program, as plain functions.
-/
namespace Go.Proofs.YtnbpgehpjhifgaaDoor.Lx
open Go Go.Eng Go.Proofs
set_option maxRecDepth 100000

/-! (*lodge/arena.Arena).Raw -/

abbrev ps_arena_Arena_Raw : List Ty := [(.hd 0), (.int .i64), (.int .i64)]
abbrev rs_arena_Arena_Raw : List Slot := [.sl (.int .u8)]
abbrev cs_arena_Arena_Raw (N : Nat) : List (CallSpec E) := [c_slices_Clone_byte N]
noncomputable abbrev b_arena_Arena_Raw : Code := (Go.Proofs.Tryd.f19.body).getD .skip

def F_arena_Arena_Raw (N : Nat) (T0 : List (List Int × (List (Option Nat) × Unit))) (T1 : List (Int × (Int × (Int × (List ((Int × Int)) × Unit))))) (a_0 : Option Nat) (off_1 : Int) (n_2 : Int) : Option ((List (List Int × (List (Option Nat) × Unit)) × (List (Int × (Int × (Int × (List ((Int × Int)) × Unit)))) × Unit)) × (List Int × Unit)) :=
  cond (decide (off_1 < (0 : Int)))
    (
    cond (decide ((0 : Int) < n_2))
      (
      cond (decide ((wi64 (n_2 + off_1)) < (1 : Int)))
        (
        some ((T0, (T1, ())), (([] : List Int), ())))
        (
        cond (@Option.isSome Nat a_0)
          (
          cond (decide ((Nat.cast (List.length ((List.getD T0 (@Option.getD Nat a_0 (0 : Nat)) (([] : List Int), (([] : List (Option Nat)), ())))).1) : Int) ≤ (0 : Int)))
            (
            some ((T0, (T1, ())), (([] : List Int), ())))
            (
            cond (@Option.isSome Nat a_0)
              (
              cond (@Option.isSome Nat a_0)
                (
                cond (decide ((0 : Int) ≤ (wi64 ((0 : Int) + (Go.Eng.imin (wi64 (n_2 + off_1)) (wi64 ((Nat.cast (List.length ((List.getD T0 (@Option.getD Nat a_0 (0 : Nat)) (([] : List Int), (([] : List (Option Nat)), ())))).1) : Int) - (0 : Int))))))))
                  (
                  cond (decide ((Int.toNat (wi64 ((0 : Int) + (Go.Eng.imin (wi64 (n_2 + off_1)) (wi64 ((Nat.cast (List.length ((List.getD T0 (@Option.getD Nat a_0 (0 : Nat)) (([] : List Int), (([] : List (Option Nat)), ())))).1) : Int) - (0 : Int))))))) ≤ (List.length ((List.getD T0 (@Option.getD Nat a_0 (0 : Nat)) (([] : List Int), (([] : List (Option Nat)), ())))).1)))
                    (
                    cond (decide ((((0 : Nat) + 0) + ((Int.toNat (wi64 ((0 : Int) + (Go.Eng.imin (wi64 (n_2 + off_1)) (wi64 ((Nat.cast (List.length ((List.getD T0 (@Option.getD Nat a_0 (0 : Nat)) (([] : List Int), (([] : List (Option Nat)), ())))).1) : Int) - (0 : Int))))))) - 0)) ≤ (List.length ((List.getD T0 (@Option.getD Nat a_0 (0 : Nat)) (([] : List Int), (([] : List (Option Nat)), ())))).1)))
                      (
                      Option.bind (F_slices_Clone_byte N (List.take ((Int.toNat (wi64 ((0 : Int) + (Go.Eng.imin (wi64 (n_2 + off_1)) (wi64 ((Nat.cast (List.length ((List.getD T0 (@Option.getD Nat a_0 (0 : Nat)) (([] : List Int), (([] : List (Option Nat)), ())))).1) : Int) - (0 : Int))))))) - 0) (List.drop ((0 : Nat) + 0) ((List.getD T0 (@Option.getD Nat a_0 (0 : Nat)) (([] : List Int), (([] : List (Option Nat)), ())))).1))) fun y0 =>
                      cond (decide ((List.length ((y0).2).1) = (List.length ((y0).2).1)))
                        (
                        some ((T0, (T1, ())), (y0).2))
                        (
                        none))
                      (
                      none))
                    (
                    none))
                  (
                  none))
                (
                none))
              (
              none)))
          (
          none)))
      (
      cond (decide (off_1 < (0 : Int)))
        (
        some ((T0, (T1, ())), (([] : List Int), ())))
        (
        cond (decide (n_2 < (1 : Int)))
          (
          some ((T0, (T1, ())), (([] : List Int), ())))
          (
          cond (@Option.isSome Nat a_0)
            (
            cond (decide ((Nat.cast (List.length ((List.getD T0 (@Option.getD Nat a_0 (0 : Nat)) (([] : List Int), (([] : List (Option Nat)), ())))).1) : Int) ≤ off_1))
              (
              some ((T0, (T1, ())), (([] : List Int), ())))
              (
              cond (@Option.isSome Nat a_0)
                (
                cond (@Option.isSome Nat a_0)
                  (
                  cond (decide ((0 : Int) ≤ off_1))
                    (
                    cond (decide ((0 : Int) ≤ (wi64 (off_1 + (Go.Eng.imin n_2 (wi64 ((Nat.cast (List.length ((List.getD T0 (@Option.getD Nat a_0 (0 : Nat)) (([] : List Int), (([] : List (Option Nat)), ())))).1) : Int) - off_1)))))))
                      (
                      cond (decide ((Int.toNat off_1) ≤ (Int.toNat (wi64 (off_1 + (Go.Eng.imin n_2 (wi64 ((Nat.cast (List.length ((List.getD T0 (@Option.getD Nat a_0 (0 : Nat)) (([] : List Int), (([] : List (Option Nat)), ())))).1) : Int) - off_1))))))))
                        (
                        cond (decide ((Int.toNat (wi64 (off_1 + (Go.Eng.imin n_2 (wi64 ((Nat.cast (List.length ((List.getD T0 (@Option.getD Nat a_0 (0 : Nat)) (([] : List Int), (([] : List (Option Nat)), ())))).1) : Int) - off_1)))))) ≤ (List.length ((List.getD T0 (@Option.getD Nat a_0 (0 : Nat)) (([] : List Int), (([] : List (Option Nat)), ())))).1)))
                          (
                          cond (decide ((((0 : Nat) + (Int.toNat off_1)) + ((Int.toNat (wi64 (off_1 + (Go.Eng.imin n_2 (wi64 ((Nat.cast (List.length ((List.getD T0 (@Option.getD Nat a_0 (0 : Nat)) (([] : List Int), (([] : List (Option Nat)), ())))).1) : Int) - off_1)))))) - (Int.toNat off_1))) ≤ (List.length ((List.getD T0 (@Option.getD Nat a_0 (0 : Nat)) (([] : List Int), (([] : List (Option Nat)), ())))).1)))
                            (
                            Option.bind (F_slices_Clone_byte N (List.take ((Int.toNat (wi64 (off_1 + (Go.Eng.imin n_2 (wi64 ((Nat.cast (List.length ((List.getD T0 (@Option.getD Nat a_0 (0 : Nat)) (([] : List Int), (([] : List (Option Nat)), ())))).1) : Int) - off_1)))))) - (Int.toNat off_1)) (List.drop ((0 : Nat) + (Int.toNat off_1)) ((List.getD T0 (@Option.getD Nat a_0 (0 : Nat)) (([] : List Int), (([] : List (Option Nat)), ())))).1))) fun y1 =>
                            cond (decide ((List.length ((y1).2).1) = (List.length ((y1).2).1)))
                              (
                              some ((T0, (T1, ())), (y1).2))
                              (
                              none))
                            (
                            none))
                          (
                          none))
                        (
                        none))
                      (
                      none))
                    (
                    none))
                  (
                  none))
                (
                none)))
            (
            none)))))
    (
    cond (decide (off_1 < (0 : Int)))
      (
      some ((T0, (T1, ())), (([] : List Int), ())))
      (
      cond (decide (n_2 < (1 : Int)))
        (
        some ((T0, (T1, ())), (([] : List Int), ())))
        (
        cond (@Option.isSome Nat a_0)
          (
          cond (decide ((Nat.cast (List.length ((List.getD T0 (@Option.getD Nat a_0 (0 : Nat)) (([] : List Int), (([] : List (Option Nat)), ())))).1) : Int) ≤ off_1))
            (
            some ((T0, (T1, ())), (([] : List Int), ())))
            (
            cond (@Option.isSome Nat a_0)
              (
              cond (@Option.isSome Nat a_0)
                (
                cond (decide ((0 : Int) ≤ off_1))
                  (
                  cond (decide ((0 : Int) ≤ (wi64 (off_1 + (Go.Eng.imin n_2 (wi64 ((Nat.cast (List.length ((List.getD T0 (@Option.getD Nat a_0 (0 : Nat)) (([] : List Int), (([] : List (Option Nat)), ())))).1) : Int) - off_1)))))))
                    (
                    cond (decide ((Int.toNat off_1) ≤ (Int.toNat (wi64 (off_1 + (Go.Eng.imin n_2 (wi64 ((Nat.cast (List.length ((List.getD T0 (@Option.getD Nat a_0 (0 : Nat)) (([] : List Int), (([] : List (Option Nat)), ())))).1) : Int) - off_1))))))))
                      (
                      cond (decide ((Int.toNat (wi64 (off_1 + (Go.Eng.imin n_2 (wi64 ((Nat.cast (List.length ((List.getD T0 (@Option.getD Nat a_0 (0 : Nat)) (([] : List Int), (([] : List (Option Nat)), ())))).1) : Int) - off_1)))))) ≤ (List.length ((List.getD T0 (@Option.getD Nat a_0 (0 : Nat)) (([] : List Int), (([] : List (Option Nat)), ())))).1)))
                        (
                        cond (decide ((((0 : Nat) + (Int.toNat off_1)) + ((Int.toNat (wi64 (off_1 + (Go.Eng.imin n_2 (wi64 ((Nat.cast (List.length ((List.getD T0 (@Option.getD Nat a_0 (0 : Nat)) (([] : List Int), (([] : List (Option Nat)), ())))).1) : Int) - off_1)))))) - (Int.toNat off_1))) ≤ (List.length ((List.getD T0 (@Option.getD Nat a_0 (0 : Nat)) (([] : List Int), (([] : List (Option Nat)), ())))).1)))
                          (
                          Option.bind (F_slices_Clone_byte N (List.take ((Int.toNat (wi64 (off_1 + (Go.Eng.imin n_2 (wi64 ((Nat.cast (List.length ((List.getD T0 (@Option.getD Nat a_0 (0 : Nat)) (([] : List Int), (([] : List (Option Nat)), ())))).1) : Int) - off_1)))))) - (Int.toNat off_1)) (List.drop ((0 : Nat) + (Int.toNat off_1)) ((List.getD T0 (@Option.getD Nat a_0 (0 : Nat)) (([] : List Int), (([] : List (Option Nat)), ())))).1))) fun y2 =>
                          cond (decide ((List.length ((y2).2).1) = (List.length ((y2).2).1)))
                            (
                            some ((T0, (T1, ())), (y2).2))
                            (
                            none))
                          (
                          none))
                        (
                        none))
                      (
                      none))
                    (
                    none))
                  (
                  none))
                (
                none))
              (
              none)))
          (
          none))))

abbrev c_arena_Arena_Raw (N : Nat) : CallSpec E := ⟨19, ps_arena_Arena_Raw, rs_arena_Arena_Raw, fun x => F_arena_Arena_Raw N x.1.1 x.1.2.1 x.2.1 x.2.2.1 x.2.2.2.1⟩

theorem cs_arena_Arena_Raw_ok (S : Ini) (N : Nat) : CallsOK Go.Proofs.Tryd.prog E S (cs_arena_Arena_Raw N) :=
  .cons (F_slices_Clone_byte_ok S N) (.nil)
theorem F_arena_Arena_Raw_ok (S : Ini) (N : Nat) : ∀ x y, (c_arena_Arena_Raw N).g x = some y → FCon Go.Proofs.Tryd.prog E S 19 ps_arena_Arena_Raw rs_arena_Arena_Raw x y := by
  intro x y h
  exact fun_specJ E_ok mixed (cs_arena_Arena_Raw_ok S N) (f := 19) (fi := ⟨b_arena_Arena_Raw, 49, Go.Proofs.Tryd.f19.results.toList⟩) (by kernel_rfl) (ls := []) (.nil) (js := []) (by kernel_rfl) (ps := ps_arena_Arena_Raw) (rs := rs_arena_Arena_Raw) (Eq.trans (b := F_arena_Arena_Raw N x.1.1 x.1.2.1 x.2.1 x.2.2.1 x.2.2.2.1) (by kernel_rfl) h)

/-! slices.Clone[[]lodge/arena.block,lodge/arena.block] -/

abbrev ps_slices_Clone_arena_block : List Ty := [(.sl (.st (.pair (.int .i64) (.int .i64))))]
abbrev rs_slices_Clone_arena_block : List Slot := [.sl (.st (.pair (.int .i64) (.int .i64)))]
abbrev cs_slices_Clone_arena_block (N : Nat) : List (CallSpec E) := []
noncomputable abbrev b_slices_Clone_arena_block : Code := (Go.Proofs.Tryd.f36.body).getD .skip

def F_slices_Clone_arena_block (N : Nat) (s_0 : List ((Int × Int))) : Option (Unit × (List ((Int × Int)) × Unit)) :=
  cond (decide ((((0 : Nat) + (List.length s_0)) * (16 + (1 : Nat))) ≤ Go.Eng.most))
    (
    cond (decide (((0 : Nat) + (List.length s_0)) = (List.length (([] : List (Int × Int)) ++ s_0))))
      (
      some ((), ((([] : List (Int × Int)) ++ s_0), ())))
      (
      none))
    (
    none)

abbrev c_slices_Clone_arena_block (N : Nat) : CallSpec E := ⟨36, ps_slices_Clone_arena_block, rs_slices_Clone_arena_block, fun x => F_slices_Clone_arena_block N x.2.1⟩

theorem cs_slices_Clone_arena_block_ok (S : Ini) (N : Nat) : CallsOK Go.Proofs.Tryd.prog E S (cs_slices_Clone_arena_block N) :=
  .nil
theorem F_slices_Clone_arena_block_ok (S : Ini) (N : Nat) : ∀ x y, (c_slices_Clone_arena_block N).g x = some y → FCon Go.Proofs.Tryd.prog E S 36 ps_slices_Clone_arena_block rs_slices_Clone_arena_block x y := by
  intro x y h
  exact nil_spec E_ok mixed (f := 36) (fi := ⟨b_slices_Clone_arena_block, 8, Go.Proofs.Tryd.f36.results.toList⟩) (by kernel_rfl) (by kernel_rfl) (t := (.st (.pair (.int .i64) (.int .i64)))) (T := x.1) (l := x.2.1) (rs := rs_slices_Clone_arena_block) (y := y) (Eq.trans (b := F_slices_Clone_arena_block N x.2.1) (by kernel_rfl) h) (fun hl => by
    have h' : F_slices_Clone_arena_block N x.2.1 = some y := h
    rw [hl] at h'
    exact (show funJKA E [] [] [] [] ⟨b_slices_Clone_arena_block, 8, Go.Proofs.Tryd.f36.results.toList⟩ [.v (.slice none 0 0)] (encTabs E.kinds [] x.1) rs_slices_Clone_arena_block = some (x.1, ([], ())) by kernel_rfl).trans ((show F_slices_Clone_arena_block N  [] = some (x.1, ([], ())) by kernel_rfl).symm.trans h'))


end Go.Proofs.YtnbpgehpjhifgaaDoor.Lx
