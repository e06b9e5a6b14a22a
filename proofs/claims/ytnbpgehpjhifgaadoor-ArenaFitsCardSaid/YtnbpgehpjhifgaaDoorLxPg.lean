/-
  Texts of the proof, one behind the other.
-/
import Derived.Test.YtnbpgehpjhifgaaDoorLxPf

/-
  The functions of the seat's program, as plain functions.
-/
namespace Go.Proofs.YtnbpgehpjhifgaaDoor.Lx
open Go Go.Eng Go.Proofs
set_option maxRecDepth 100000

/-! lodge/arena.New -/

abbrev ps_arena_New : List Ty := [(.int .i64)]
abbrev rs_arena_New : List Slot := [.data (.hd 0), .data .err]
abbrev cs_arena_New (N : Nat) : List (CallSpec E) := []
noncomputable abbrev b_arena_New : Code := (Go.Proofs.Tryd.f9.body).getD .skip

def F_arena_New (N : Nat) (T0 : List (List Int × (List (Option Nat) × Unit))) (T1 : List (Int × (Int × (Int × (List ((Int × Int)) × Unit))))) (size_0 : Int) : Option ((List (List Int × (List (Option Nat) × Unit)) × (List (Int × (Int × (Int × (List ((Int × Int)) × Unit)))) × Unit)) × (Option Nat × (Er × Unit))) :=
  cond (decide (size_0 < (1 : Int)))
    (
    some ((T0, (T1, ())), ((@Option.none Nat), ((Go.Eng.Er.s ErrRange), ()))))
    (
    cond (decide ((1048576 : Int) < size_0))
      (
      some ((T0, (T1, ())), ((@Option.none Nat), ((Go.Eng.Er.s ErrRange), ()))))
      (
      cond (decide ((0 : Int) ≤ size_0))
        (
        cond (decide (size_0 ≤ size_0))
          (
          cond (decide ((size_0 * ((Nat.cast 1 : Int) + (1 : Int))) ≤ (Nat.cast Go.Eng.most : Int)))
            (
            cond (decide (((0 : Nat) + (Int.toNat size_0)) ≤ (List.length (List.replicate (Int.toNat size_0) (0 : Int)))))
              (
              some (((T0 ++ (((List.take (Int.toNat size_0) (List.replicate (Int.toNat size_0) (0 : Int))), (([] : List (Option Nat)), ())) :: ([] : List ((List Int) × ((List (Option Nat)) × PUnit))))), (T1, ())), ((@Option.some Nat (List.length T0)), (Go.Eng.Er.nil, ()))))
              (
              none))
            (
            none))
          (
          none))
        (
        none)))

abbrev c_arena_New (N : Nat) : CallSpec E := ⟨9, ps_arena_New, rs_arena_New, fun x => F_arena_New N x.1.1 x.1.2.1 x.2.1⟩

theorem cs_arena_New_ok (S : Ini) (N : Nat) : CallsOK Go.Proofs.Tryd.prog E S (cs_arena_New N) :=
  .nil
theorem F_arena_New_ok (S : Ini) (N : Nat) : ∀ x y, (c_arena_New N).g x = some y → FCon Go.Proofs.Tryd.prog E S 9 ps_arena_New rs_arena_New x y := by
  intro x y h
  exact fun_specJ E_ok mixed (cs_arena_New_ok S N) (f := 9) (fi := ⟨b_arena_New, 15, Go.Proofs.Tryd.f9.results.toList⟩) (by kernel_rfl) (ls := []) (.nil) (js := []) (by kernel_rfl) (ps := ps_arena_New) (rs := rs_arena_New) (Eq.trans (b := F_arena_New N x.1.1 x.1.2.1 x.2.1) (by kernel_rfl) h)

/-! (*lodge/arena.Arena).find -/

abbrev ps_arena_Arena_find : List Ty := [(.hd 0), (.int .i64)]
abbrev rs_arena_Arena_find : List Slot := [.data (.hd 1)]
abbrev cs_arena_Arena_find (N : Nat) : List (CallSpec E) := []
noncomputable abbrev b_arena_Arena_find : Code := (Go.Proofs.Tryd.f22.body).getD .skip

abbrev h_arena_Arena_find_0 : List Slot := [.dead, .data (.int .i64), .dead, .dead, .dead, .dead, .dead, .dead, .dead, .dead, .bor (.hd 1) 0 2, .data (.int .i64), .data (.int .i64), .dead, .dead, .dead, .dead, .dead, .dead, .dead, .dead, .dead, .dead, .dead, .dead]
abbrev e_arena_Arena_find_0 : List (AX × List Slot) := [(AX.exit 0, [.dead, .dead, .dead, .dead, .dead, .dead, .dead, .dead, .dead, .dead, .dead, .dead, .dead, .dead, .dead, .dead, .dead, .dead, .dead, .dead, .dead, .dead, .dead, .dead, .dead]), (AX.ret, [.dead, .dead, .dead, .dead, .data (.hd 1), .dead, .dead, .dead, .dead, .dead, .dead, .dead, .dead, .dead, .dead, .dead, .dead, .dead, .dead, .dead, .dead, .dead, .dead, .dead, .dead])]
def g_arena_Arena_find_0 (N : Nat) : Nat → List (List Int × (List (Option Nat) × Unit)) → List (Int × (Int × (Int × (List ((Int × Int)) × Unit)))) → Int → (Nat × (Nat × Nat)) → Int → Int → Option (Sum ((List (List Int × (List (Option Nat) × Unit)) × (List (Int × (Int × (Int × (List ((Int × Int)) × Unit)))) × Unit)) × Unit) ((List (List Int × (List (Option Nat) × Unit)) × (List (Int × (Int × (Int × (List ((Int × Int)) × Unit)))) × Unit)) × (Option Nat × Unit)))
  | 0, _, _, _, _, _, _ => none
  | n + 1, T0, T1, id_1, t_10, t_11, t_12 =>
    cond (decide (t_12 < t_11))
      (
      cond (decide ((0 : Int) ≤ t_12))
        (
        cond (decide ((Int.toNat t_12) < ((t_10).2).2))
          (
          cond (decide ((((t_10).2).1 + (Int.toNat t_12)) < (List.length (((List.getD T0 (t_10).1 (([] : List Int), (([] : List (Option Nat)), ())))).2).1)))
            (
            cond (@Option.isSome Nat (List.getD (((List.getD T0 (t_10).1 (([] : List Int), (([] : List (Option Nat)), ())))).2).1 (((t_10).2).1 + (Int.toNat t_12)) (@Option.none Nat)))
              (
              cond (decide (((List.getD T1 (@Option.getD Nat (List.getD (((List.getD T0 (t_10).1 (([] : List Int), (([] : List (Option Nat)), ())))).2).1 (((t_10).2).1 + (Int.toNat t_12)) (@Option.none Nat)) (0 : Nat)) ((0 : Int), ((0 : Int), ((0 : Int), (([] : List (Int × Int)), ())))))).1 = id_1))
                (
                some (Sum.inr ((T0, (T1, ())), ((List.getD (((List.getD T0 (t_10).1 (([] : List Int), (([] : List (Option Nat)), ())))).2).1 (((t_10).2).1 + (Int.toNat t_12)) (@Option.none Nat)), ()))))
                (
                (g_arena_Arena_find_0 N n T0 T1 id_1 t_10 t_11 (wi64 (t_12 + (1 : Int))))))
              (
              none))
            (
            none))
          (
          none))
        (
        none))
      (
      some (Sum.inl ((T0, (T1, ())), ())))

def F_arena_Arena_find (N : Nat) (T0 : List (List Int × (List (Option Nat) × Unit))) (T1 : List (Int × (Int × (Int × (List ((Int × Int)) × Unit))))) (a_0 : Option Nat) (id_1 : Int) : Option ((List (List Int × (List (Option Nat) × Unit)) × (List (Int × (Int × (Int × (List ((Int × Int)) × Unit)))) × Unit)) × (Option Nat × Unit)) :=
  cond (@Option.isSome Nat a_0)
    (
    Option.bind (g_arena_Arena_find_0 N N T0 T1 id_1 ((@Option.getD Nat a_0 (0 : Nat)), ((0 : Nat), (List.length (((List.getD T0 (@Option.getD Nat a_0 (0 : Nat)) (([] : List Int), (([] : List (Option Nat)), ())))).2).1))) (Nat.cast (List.length (((List.getD T0 (@Option.getD Nat a_0 (0 : Nat)) (([] : List Int), (([] : List (Option Nat)), ())))).2).1) : Int) (0 : Int)) fun y0 =>
    Sum.elim (fun y1 =>
      some ((y1).1, ((@Option.none Nat), ())))
      (fun y2 =>
      some y2) y0)
    (
    none)

abbrev c_arena_Arena_find (N : Nat) : CallSpec E := ⟨22, ps_arena_Arena_find, rs_arena_Arena_find, fun x => F_arena_Arena_find N x.1.1 x.1.2.1 x.2.1 x.2.2.1⟩
abbrev l_arena_Arena_find_0 (N : Nat) : LoopSpec E [0, 1] := ⟨0, h_arena_Arena_find_0, e_arena_Arena_find_0, fun x => g_arena_Arena_find_0 N N x.1.1 x.1.2.1 x.2.1 x.2.2.1 x.2.2.2.1 x.2.2.2.2.1⟩

theorem cs_arena_Arena_find_ok (S : Ini) (N : Nat) : CallsOK Go.Proofs.Tryd.prog E S (cs_arena_Arena_find N) :=
  .nil
noncomputable abbrev b_arena_Arena_find_0 : Code := (loopsOf b_arena_Arena_find).getD 0 .skip
theorem g_arena_Arena_find_0_ok (S : Ini) (N : Nat) : ∀ n x y, (fun (x : StV E [0, 1] h_arena_Arena_find_0) => g_arena_Arena_find_0 N n x.1.1 x.1.2.1 x.2.1 x.2.2.1 x.2.2.2.1 x.2.2.2.2.1) x = some y → LoopCon Go.Proofs.Tryd.prog E S b_arena_Arena_find_0 (encSlots E [0, 1] h_arena_Arena_find_0 x) (encEx E [0, 1] e_arena_Arena_find_0 y).1 (encEx E [0, 1] e_arena_Arena_find_0 y).2 :=
  loop_specJ E_ok mixed (E_ok.ks 22) (cs_arena_Arena_find_ok S N) (all := loopsOf b_arena_Arena_find) (ls := []) (.nil) (js := []) (i := 0) (by kernel_rfl) (inner_of (by kernel_rfl)) (head := h_arena_Arena_find_0) (ex := e_arena_Arena_find_0) (fun n (x : StV E [0, 1] h_arena_Arena_find_0) => g_arena_Arena_find_0 N n x.1.1 x.1.2.1 x.2.1 x.2.2.1 x.2.2.2.1 x.2.2.2.2.1) (fun _ => rfl) (fun n x => by kernel_rfl)
theorem F_arena_Arena_find_ok (S : Ini) (N : Nat) : ∀ x y, (c_arena_Arena_find N).g x = some y → FCon Go.Proofs.Tryd.prog E S 22 ps_arena_Arena_find rs_arena_Arena_find x y := by
  intro x y h
  exact fun_specJ E_ok mixed (cs_arena_Arena_find_ok S N) (f := 22) (fi := ⟨b_arena_Arena_find, 25, Go.Proofs.Tryd.f22.results.toList⟩) (by kernel_rfl) (ls := [l_arena_Arena_find_0 N]) (.cons (by kernel_rfl) (g_arena_Arena_find_0_ok S N N) (.nil)) (js := []) (by kernel_rfl) (ps := ps_arena_Arena_find) (rs := rs_arena_Arena_find) (Eq.trans (b := F_arena_Arena_find N x.1.1 x.1.2.1 x.2.1 x.2.2.1) (by kernel_rfl) h)

/-! lodge/arena.gap -/

abbrev ps_arena_gap : List Ty := [(.sl (.st (.pair (.int .i64) (.int .i64)))), (.int .i64), (.int .i64)]
abbrev rs_arena_gap : List Slot := [.data (.int .i64), .data (.int .i64), .data .bool]
abbrev cs_arena_gap (N : Nat) : List (CallSpec E) := []
noncomputable abbrev b_arena_gap : Code := (Go.Proofs.Tryd.f23.body).getD .skip

abbrev h_arena_gap_0 : List Slot := [.data (.sl (.st (.pair (.int .i64) (.int .i64)))), .data (.int .i64), .data (.int .i64), .dead, .dead, .dead, .dead, .dead, .dead, .data (.int .i64), .dead, .dead, .data (.sl (.st (.pair (.int .i64) (.int .i64)))), .data (.int .i64), .data (.int .i64), .dead, .dead, .dead, .dead, .dead, .dead, .dead, .dead, .dead, .dead, .dead, .dead, .dead, .dead, .dead, .dead, .dead, .dead, .dead, .dead, .dead, .dead, .dead, .dead, .dead, .dead]
abbrev e_arena_gap_0 : List (AX × List Slot) := [(AX.exit 0, [.data (.sl (.st (.pair (.int .i64) (.int .i64)))), .data (.int .i64), .data (.int .i64), .dead, .dead, .dead, .dead, .dead, .dead, .data (.int .i64), .dead, .dead, .dead, .dead, .dead, .dead, .dead, .dead, .dead, .dead, .dead, .dead, .dead, .dead, .dead, .dead, .dead, .dead, .dead, .dead, .dead, .dead, .dead, .dead, .dead, .dead, .dead, .dead, .dead, .dead, .dead]), (AX.ret, [.dead, .dead, .dead, .dead, .dead, .dead, .data (.int .i64), .data (.int .i64), .data .bool, .dead, .dead, .dead, .dead, .dead, .dead, .dead, .dead, .dead, .dead, .dead, .dead, .dead, .dead, .dead, .dead, .dead, .dead, .dead, .dead, .dead, .dead, .dead, .dead, .dead, .dead, .dead, .dead, .dead, .dead, .dead, .dead])]
def g_arena_gap_0 (N : Nat) : Nat → List ((Int × Int)) → Int → Int → Int → List ((Int × Int)) → Int → Int → Option (Sum (Unit × (List ((Int × Int)) × (Int × (Int × (Int × Unit))))) (Unit × (Int × (Int × (Bool × Unit)))))
  | 0, _, _, _, _, _, _, _ => none
  | n + 1, l_0, size_1, n_2, at_9, t_12, t_13, t_14 =>
    cond (decide (t_14 < t_13))
      (
      cond (decide ((0 : Int) ≤ t_14))
        (
        cond (decide ((Int.toNat t_14) < (List.length t_12)))
          (
          cond (decide (n_2 ≤ (wi64 (((List.getD t_12 (Int.toNat t_14) ((0 : Int), (0 : Int)))).1 - at_9))))
            (
            some (Sum.inr ((), (at_9, (t_14, (true, ()))))))
            (
            (g_arena_gap_0 N n l_0 size_1 n_2 (wi64 (((List.getD t_12 (Int.toNat t_14) ((0 : Int), (0 : Int)))).1 + ((List.getD t_12 (Int.toNat t_14) ((0 : Int), (0 : Int)))).2)) t_12 t_13 (wi64 (t_14 + (1 : Int))))))
          (
          none))
        (
        none))
      (
      some (Sum.inl ((), (l_0, (size_1, (n_2, (at_9, ())))))))

def F_arena_gap (N : Nat) (l_0 : List ((Int × Int))) (size_1 : Int) (n_2 : Int) : Option (Unit × (Int × (Int × (Bool × Unit)))) :=
  Option.bind (g_arena_gap_0 N N l_0 size_1 n_2 (0 : Int) l_0 (Nat.cast (List.length l_0) : Int) (0 : Int)) fun y0 =>
  Sum.elim (fun y1 =>
    some ((), ((((((y1).2).2).2).2).1, ((Nat.cast (List.length ((y1).2).1) : Int), ((decide (((((y1).2).2).2).1 ≤ (wi64 ((((y1).2).2).1 - (((((y1).2).2).2).2).1)))), ())))))
    (fun y2 =>
    some ((), (y2).2)) y0

abbrev c_arena_gap (N : Nat) : CallSpec E := ⟨23, ps_arena_gap, rs_arena_gap, fun x => F_arena_gap N x.2.1 x.2.2.1 x.2.2.2.1⟩
abbrev l_arena_gap_0 (N : Nat) : LoopSpec E [] := ⟨0, h_arena_gap_0, e_arena_gap_0, fun x => g_arena_gap_0 N N x.2.1 x.2.2.1 x.2.2.2.1 x.2.2.2.2.1 x.2.2.2.2.2.1 x.2.2.2.2.2.2.1 x.2.2.2.2.2.2.2.1⟩

theorem cs_arena_gap_ok (S : Ini) (N : Nat) : CallsOK Go.Proofs.Tryd.prog E S (cs_arena_gap N) :=
  .nil
noncomputable abbrev b_arena_gap_0 : Code := (loopsOf b_arena_gap).getD 0 .skip
theorem g_arena_gap_0_ok (S : Ini) (N : Nat) : ∀ n x y, (fun (x : StV E [] h_arena_gap_0) => g_arena_gap_0 N n x.2.1 x.2.2.1 x.2.2.2.1 x.2.2.2.2.1 x.2.2.2.2.2.1 x.2.2.2.2.2.2.1 x.2.2.2.2.2.2.2.1) x = some y → LoopCon Go.Proofs.Tryd.prog E S b_arena_gap_0 (encSlots E [] h_arena_gap_0 x) (encEx E [] e_arena_gap_0 y).1 (encEx E [] e_arena_gap_0 y).2 :=
  loop_specJ E_ok mixed (E_ok.ks 23) (cs_arena_gap_ok S N) (all := loopsOf b_arena_gap) (ls := []) (.nil) (js := []) (i := 0) (by kernel_rfl) (inner_of (by kernel_rfl)) (head := h_arena_gap_0) (ex := e_arena_gap_0) (fun n (x : StV E [] h_arena_gap_0) => g_arena_gap_0 N n x.2.1 x.2.2.1 x.2.2.2.1 x.2.2.2.2.1 x.2.2.2.2.2.1 x.2.2.2.2.2.2.1 x.2.2.2.2.2.2.2.1) (fun _ => rfl) (fun n x => by kernel_rfl)
theorem F_arena_gap_ok (S : Ini) (N : Nat) : ∀ x y, (c_arena_gap N).g x = some y → FCon Go.Proofs.Tryd.prog E S 23 ps_arena_gap rs_arena_gap x y := by
  intro x y h
  exact fun_specJ E_ok mixed (cs_arena_gap_ok S N) (f := 23) (fi := ⟨b_arena_gap, 41, Go.Proofs.Tryd.f23.results.toList⟩) (by kernel_rfl) (ls := [l_arena_gap_0 N]) (.cons (by kernel_rfl) (g_arena_gap_0_ok S N N) (.nil)) (js := []) (by kernel_rfl) (ps := ps_arena_gap) (rs := rs_arena_gap) (Eq.trans (b := F_arena_gap N x.2.1 x.2.2.1 x.2.2.2.1) (by kernel_rfl) h)

/-! (*lodge/arena.Arena).Add -/

abbrev ps_arena_Arena_Add : List Ty := [(.hd 0), (.int .i64), (.int .i64)]
abbrev rs_arena_Arena_Add : List Slot := [.data (.st (.pair (.int .i64) (.pair (.int .i64) (.int .i64)))), .data .err]
abbrev cs_arena_Arena_Add (N : Nat) : List (CallSpec E) := [c_arena_Arena_find N, c_arena_gap N]
noncomputable abbrev b_arena_Arena_Add : Code := (Go.Proofs.Tryd.f10.body).getD .skip

abbrev h_arena_Arena_Add_0 : List Slot := [.data (.hd 0), .data (.int .i64), .data (.int .i64), .dead, .dead, .dead, .box [.d (.st (.pair (.int .i64) (.pair (.int .i64) (.int .i64))))], .dead, .sl (.st (.pair (.int .i64) (.int .i64))), .dead, .dead, .dead, .dead, .dead, .dead, .dead, .dead, .dead, .dead, .dead, .dead, .dead, .dead, .dead, .dead, .dead, .dead, .dead, .bor (.hd 1) 0 2, .data (.int .i64), .data (.int .i64), .dead, .dead, .dead, .dead, .dead, .dead, .dead, .dead, .dead, .dead, .dead, .dead, .dead, .dead, .dead, .dead, .dead, .dead, .dead, .dead, .dead, .dead, .dead, .dead, .dead, .dead, .dead, .dead, .dead, .dead, .dead, .dead, .dead, .dead, .dead, .dead, .dead, .dead, .dead, .dead, .dead, .dead, .dead, .dead, .dead, .dead, .dead, .dead, .dead, .dead, .dead, .dead]
abbrev e_arena_Arena_Add_0 : List (AX × List Slot) := [(AX.exit 0, [.data (.hd 0), .data (.int .i64), .data (.int .i64), .dead, .dead, .dead, .box [.d (.st (.pair (.int .i64) (.pair (.int .i64) (.int .i64))))], .dead, .sl (.st (.pair (.int .i64) (.int .i64))), .dead, .dead, .dead, .dead, .dead, .dead, .dead, .dead, .dead, .dead, .dead, .dead, .dead, .dead, .dead, .dead, .dead, .dead, .dead, .dead, .dead, .dead, .dead, .dead, .dead, .dead, .dead, .dead, .dead, .dead, .dead, .dead, .dead, .dead, .dead, .dead, .dead, .dead, .dead, .dead, .dead, .dead, .dead, .dead, .dead, .dead, .dead, .dead, .dead, .dead, .dead, .dead, .dead, .dead, .dead, .dead, .dead, .dead, .dead, .dead, .dead, .dead, .dead, .dead, .dead, .dead, .dead, .dead, .dead, .dead, .dead, .dead, .dead, .dead])]
def g_arena_Arena_Add_0 (N : Nat) : Nat → List (List Int × (List (Option Nat) × Unit)) → List (Int × (Int × (Int × (List ((Int × Int)) × Unit)))) → Option Nat → Int → Int → ((Int × (Int × Int)) × Unit) → List ((Int × Int)) → (Nat × (Nat × Nat)) → Int → Int → Option ((List (List Int × (List (Option Nat) × Unit)) × (List (Int × (Int × (Int × (List ((Int × Int)) × Unit)))) × Unit)) × (Option Nat × (Int × (Int × (((Int × (Int × Int)) × Unit) × (List ((Int × Int)) × Unit))))))
  | 0, _, _, _, _, _, _, _, _, _, _ => none
  | n + 1, T0, T1, a_0, id_1, size_2, t_6, l_8, t_28, t_29, t_30 =>
    cond (decide (t_30 < t_29))
      (
      cond (decide ((0 : Int) ≤ t_30))
        (
        cond (decide ((Int.toNat t_30) < ((t_28).2).2))
          (
          cond (decide ((((t_28).2).1 + (Int.toNat t_30)) < (List.length (((List.getD T0 (t_28).1 (([] : List Int), (([] : List (Option Nat)), ())))).2).1)))
            (
            cond (@Option.isSome Nat (List.getD (((List.getD T0 (t_28).1 (([] : List Int), (([] : List (Option Nat)), ())))).2).1 (((t_28).2).1 + (Int.toNat t_30)) (@Option.none Nat)))
              (
              cond (@Option.isSome Nat (List.getD (((List.getD T0 (t_28).1 (([] : List Int), (([] : List (Option Nat)), ())))).2).1 (((t_28).2).1 + (Int.toNat t_30)) (@Option.none Nat)))
                (
                cond (decide (((0 : Nat) + (List.length l_8)) = (List.length l_8)))
                  (
                  cond (decide ((((List.length l_8) + 1) * (16 + (1 : Nat))) ≤ Go.Eng.most))
                    (
                    cond (decide (((List.length l_8) + 1) = (List.length ((List.take (List.length l_8) l_8) ++ (((((List.getD T1 (@Option.getD Nat (List.getD (((List.getD T0 (t_28).1 (([] : List Int), (([] : List (Option Nat)), ())))).2).1 (((t_28).2).1 + (Int.toNat t_30)) (@Option.none Nat)) (0 : Nat)) ((0 : Int), ((0 : Int), ((0 : Int), (([] : List (Int × Int)), ())))))).2).1, ((((List.getD T1 (@Option.getD Nat (List.getD (((List.getD T0 (t_28).1 (([] : List Int), (([] : List (Option Nat)), ())))).2).1 (((t_28).2).1 + (Int.toNat t_30)) (@Option.none Nat)) (0 : Nat)) ((0 : Int), ((0 : Int), ((0 : Int), (([] : List (Int × Int)), ())))))).2).2).1) :: ([] : List (Int × Int)))))))
                      (
                      (g_arena_Arena_Add_0 N n T0 T1 a_0 id_1 size_2 t_6 ((List.take (List.length l_8) l_8) ++ (((((List.getD T1 (@Option.getD Nat (List.getD (((List.getD T0 (t_28).1 (([] : List Int), (([] : List (Option Nat)), ())))).2).1 (((t_28).2).1 + (Int.toNat t_30)) (@Option.none Nat)) (0 : Nat)) ((0 : Int), ((0 : Int), ((0 : Int), (([] : List (Int × Int)), ())))))).2).1, ((((List.getD T1 (@Option.getD Nat (List.getD (((List.getD T0 (t_28).1 (([] : List Int), (([] : List (Option Nat)), ())))).2).1 (((t_28).2).1 + (Int.toNat t_30)) (@Option.none Nat)) (0 : Nat)) ((0 : Int), ((0 : Int), ((0 : Int), (([] : List (Int × Int)), ())))))).2).2).1) :: ([] : List (Int × Int)))) t_28 t_29 (wi64 (t_30 + (1 : Int)))))
                      (
                      none))
                    (
                    none))
                  (
                  none))
                (
                none))
              (
              none))
            (
            none))
          (
          none))
        (
        none))
      (
      cond (decide ((List.length l_8) = (List.length l_8)))
        (
        some ((T0, (T1, ())), (a_0, (id_1, (size_2, (t_6, (l_8, ())))))))
        (
        none))

def F_arena_Arena_Add (N : Nat) (T0 : List (List Int × (List (Option Nat) × Unit))) (T1 : List (Int × (Int × (Int × (List ((Int × Int)) × Unit))))) (a_0 : Option Nat) (id_1 : Int) (size_2 : Int) : Option ((List (List Int × (List (Option Nat) × Unit)) × (List (Int × (Int × (Int × (List ((Int × Int)) × Unit)))) × Unit)) × ((Int × (Int × Int)) × (Er × Unit))) :=
  cond (decide (size_2 < (1 : Int)))
    (
    some ((T0, (T1, ())), (((0 : Int), ((0 : Int), (0 : Int))), ((Go.Eng.Er.s ErrRange), ()))))
    (
    Option.bind (F_arena_Arena_find N T0 T1 a_0 id_1) fun y0 =>
    cond (Bool.not (@Option.isNone Nat ((y0).2).1))
      (
      some ((y0).1, (((0 : Int), ((0 : Int), (0 : Int))), ((Go.Eng.Er.s ErrRange), ()))))
      (
      cond (@Option.isSome Nat a_0)
        (
        Option.bind (g_arena_Arena_Add_0 N N ((y0).1).1 (((y0).1).2).1 a_0 id_1 size_2 (((0 : Int), ((0 : Int), (0 : Int))), ()) ([] : List (Int × Int)) ((@Option.getD Nat a_0 (0 : Nat)), ((0 : Nat), (List.length (((List.getD ((y0).1).1 (@Option.getD Nat a_0 (0 : Nat)) (([] : List Int), (([] : List (Option Nat)), ())))).2).1))) (Nat.cast (List.length (((List.getD ((y0).1).1 (@Option.getD Nat a_0 (0 : Nat)) (([] : List Int), (([] : List (Option Nat)), ())))).2).1) : Int) (0 : Int)) fun y1 =>
        cond (@Option.isSome Nat ((y1).2).1)
          (
          cond (decide (((0 : Nat) + (List.length ((((((y1).2).2).2).2).2).1)) ≤ (List.length ((((((y1).2).2).2).2).2).1)))
            (
            Option.bind (F_arena_gap N (List.take (List.length ((((((y1).2).2).2).2).2).1) ((((((y1).2).2).2).2).2).1) (Nat.cast (List.length ((List.getD ((y1).1).1 (@Option.getD Nat ((y1).2).1 (0 : Nat)) (([] : List Int), (([] : List (Option Nat)), ())))).1) : Int) ((((y1).2).2).2).1) fun y2 =>
            cond (Bool.not ((((y2).2).2).2).1)
              (
              some ((y1).1, (((0 : Int), ((0 : Int), (0 : Int))), ((Go.Eng.Er.s ErrRoom), ()))))
              (
              cond (@Option.isSome Nat ((y1).2).1)
                (
                cond (decide (((0 : Nat) + (List.length (((List.getD ((y1).1).1 (@Option.getD Nat ((y1).2).1 (0 : Nat)) (([] : List Int), (([] : List (Option Nat)), ())))).2).1)) = (List.length (((List.getD ((y1).1).1 (@Option.getD Nat ((y1).2).1 (0 : Nat)) (([] : List Int), (([] : List (Option Nat)), ())))).2).1)))
                  (
                  cond (decide ((0 : Int) ≤ (((y2).2).2).1))
                    (
                    cond (decide ((Int.toNat (((y2).2).2).1) ≤ (List.length (List.take (List.length (((List.getD ((y1).1).1 (@Option.getD Nat ((y1).2).1 (0 : Nat)) (([] : List Int), (([] : List (Option Nat)), ())))).2).1) (((List.getD ((y1).1).1 (@Option.getD Nat ((y1).2).1 (0 : Nat)) (([] : List Int), (([] : List (Option Nat)), ())))).2).1))))
                      (
                      cond (decide ((((List.length (List.take (List.length (((List.getD ((y1).1).1 (@Option.getD Nat ((y1).2).1 (0 : Nat)) (([] : List Int), (([] : List (Option Nat)), ())))).2).1) (((List.getD ((y1).1).1 (@Option.getD Nat ((y1).2).1 (0 : Nat)) (([] : List Int), (([] : List (Option Nat)), ())))).2).1)) + (1 : Nat)) * ((8 : Nat) + (1 : Nat))) ≤ Go.Eng.most))
                        (
                        cond (@Option.isSome Nat ((y1).2).1)
                          (
                          cond (decide (((0 : Nat) + ((List.length (List.take (List.length (((List.getD ((y1).1).1 (@Option.getD Nat ((y1).2).1 (0 : Nat)) (([] : List Int), (([] : List (Option Nat)), ())))).2).1) (((List.getD ((y1).1).1 (@Option.getD Nat ((y1).2).1 (0 : Nat)) (([] : List Int), (([] : List (Option Nat)), ())))).2).1)) + (1 : Nat))) ≤ (List.length (((List.take (Int.toNat (((y2).2).2).1) (List.take (List.length (((List.getD ((y1).1).1 (@Option.getD Nat ((y1).2).1 (0 : Nat)) (([] : List Int), (([] : List (Option Nat)), ())))).2).1) (((List.getD ((y1).1).1 (@Option.getD Nat ((y1).2).1 (0 : Nat)) (([] : List Int), (([] : List (Option Nat)), ())))).2).1)) ++ ((@Option.some Nat (List.length (((y1).1).2).1)) :: ([] : List (Option Nat)))) ++ (List.drop (Int.toNat (((y2).2).2).1) (List.take (List.length (((List.getD ((y1).1).1 (@Option.getD Nat ((y1).2).1 (0 : Nat)) (([] : List Int), (([] : List (Option Nat)), ())))).2).1) (((List.getD ((y1).1).1 (@Option.getD Nat ((y1).2).1 (0 : Nat)) (([] : List Int), (([] : List (Option Nat)), ())))).2).1))))))
                            (
                            cond (decide ((@Option.getD Nat ((y1).2).1 (0 : Nat)) = (@Option.getD Nat ((y1).2).1 (0 : Nat))))
                              (
                              some (((List.set ((y1).1).1 (@Option.getD Nat ((y1).2).1 (0 : Nat)) (((List.getD ((y1).1).1 (@Option.getD Nat ((y1).2).1 (0 : Nat)) (([] : List Int), (([] : List (Option Nat)), ())))).1, ((List.take ((List.length (List.take (List.length (((List.getD ((y1).1).1 (@Option.getD Nat ((y1).2).1 (0 : Nat)) (([] : List Int), (([] : List (Option Nat)), ())))).2).1) (((List.getD ((y1).1).1 (@Option.getD Nat ((y1).2).1 (0 : Nat)) (([] : List Int), (([] : List (Option Nat)), ())))).2).1)) + (1 : Nat)) (((List.take (Int.toNat (((y2).2).2).1) (List.take (List.length (((List.getD ((y1).1).1 (@Option.getD Nat ((y1).2).1 (0 : Nat)) (([] : List Int), (([] : List (Option Nat)), ())))).2).1) (((List.getD ((y1).1).1 (@Option.getD Nat ((y1).2).1 (0 : Nat)) (([] : List Int), (([] : List (Option Nat)), ())))).2).1)) ++ ((@Option.some Nat (List.length (((y1).1).2).1)) :: ([] : List (Option Nat)))) ++ (List.drop (Int.toNat (((y2).2).2).1) (List.take (List.length (((List.getD ((y1).1).1 (@Option.getD Nat ((y1).2).1 (0 : Nat)) (([] : List Int), (([] : List (Option Nat)), ())))).2).1) (((List.getD ((y1).1).1 (@Option.getD Nat ((y1).2).1 (0 : Nat)) (([] : List Int), (([] : List (Option Nat)), ())))).2).1)))), (((List.getD ((y1).1).1 (@Option.getD Nat ((y1).2).1 (0 : Nat)) (([] : List Int), (([] : List (Option Nat)), ())))).2).2))), (((((y1).1).2).1 ++ (((((y1).2).2).1, (((y2).2).1, (((((y1).2).2).2).1, (([] : List (Int × Int)), ())))) :: ([] : List (Int × (Int × (Int × ((List (Int × Int)) × PUnit))))))), ())), (((((y1).2).2).1, (((y2).2).1, ((((y1).2).2).2).1)), (Go.Eng.Er.nil, ()))))
                              (
                              none))
                            (
                            none))
                          (
                          none))
                        (
                        none))
                      (
                      none))
                    (
                    none))
                  (
                  none))
                (
                none)))
            (
            none))
          (
          none))
        (
        none)))

abbrev c_arena_Arena_Add (N : Nat) : CallSpec E := ⟨10, ps_arena_Arena_Add, rs_arena_Arena_Add, fun x => F_arena_Arena_Add N x.1.1 x.1.2.1 x.2.1 x.2.2.1 x.2.2.2.1⟩
abbrev l_arena_Arena_Add_0 (N : Nat) : LoopSpec E [0, 1] := ⟨0, h_arena_Arena_Add_0, e_arena_Arena_Add_0, fun x => g_arena_Arena_Add_0 N N x.1.1 x.1.2.1 x.2.1 x.2.2.1 x.2.2.2.1 x.2.2.2.2.1 x.2.2.2.2.2.1 x.2.2.2.2.2.2.1 x.2.2.2.2.2.2.2.1 x.2.2.2.2.2.2.2.2.1⟩

theorem cs_arena_Arena_Add_ok (S : Ini) (N : Nat) : CallsOK Go.Proofs.Tryd.prog E S (cs_arena_Arena_Add N) :=
  .cons (F_arena_Arena_find_ok S N) (.cons (F_arena_gap_ok S N) (.nil))
noncomputable abbrev b_arena_Arena_Add_0 : Code := (loopsOf b_arena_Arena_Add).getD 0 .skip
theorem g_arena_Arena_Add_0_ok (S : Ini) (N : Nat) : ∀ n x y, (fun (x : StV E [0, 1] h_arena_Arena_Add_0) => g_arena_Arena_Add_0 N n x.1.1 x.1.2.1 x.2.1 x.2.2.1 x.2.2.2.1 x.2.2.2.2.1 x.2.2.2.2.2.1 x.2.2.2.2.2.2.1 x.2.2.2.2.2.2.2.1 x.2.2.2.2.2.2.2.2.1) x = some y → LoopCon Go.Proofs.Tryd.prog E S b_arena_Arena_Add_0 (encSlots E [0, 1] h_arena_Arena_Add_0 x) (encEx E [0, 1] e_arena_Arena_Add_0 y).1 (encEx E [0, 1] e_arena_Arena_Add_0 y).2 :=
  loop_specJ E_ok mixed (E_ok.ks 10) (cs_arena_Arena_Add_ok S N) (all := loopsOf b_arena_Arena_Add) (ls := []) (.nil) (js := []) (i := 0) (by kernel_rfl) (inner_of (by kernel_rfl)) (head := h_arena_Arena_Add_0) (ex := e_arena_Arena_Add_0) (fun n (x : StV E [0, 1] h_arena_Arena_Add_0) => g_arena_Arena_Add_0 N n x.1.1 x.1.2.1 x.2.1 x.2.2.1 x.2.2.2.1 x.2.2.2.2.1 x.2.2.2.2.2.1 x.2.2.2.2.2.2.1 x.2.2.2.2.2.2.2.1 x.2.2.2.2.2.2.2.2.1) (fun _ => rfl) (fun n x => by kernel_rfl)
theorem F_arena_Arena_Add_ok (S : Ini) (N : Nat) : ∀ x y, (c_arena_Arena_Add N).g x = some y → FCon Go.Proofs.Tryd.prog E S 10 ps_arena_Arena_Add rs_arena_Arena_Add x y := by
  intro x y h
  exact fun_specJ E_ok mixed (cs_arena_Arena_Add_ok S N) (f := 10) (fi := ⟨b_arena_Arena_Add, 83, Go.Proofs.Tryd.f10.results.toList⟩) (by kernel_rfl) (ls := [l_arena_Arena_Add_0 N]) (.cons (by kernel_rfl) (g_arena_Arena_Add_0_ok S N N) (.nil)) (js := []) (by kernel_rfl) (ps := ps_arena_Arena_Add) (rs := rs_arena_Arena_Add) (Eq.trans (b := F_arena_Arena_Add N x.1.1 x.1.2.1 x.2.1 x.2.2.1 x.2.2.2.1) (by kernel_rfl) h)

/-! (*lodge/arena.Arena).Take -/

abbrev ps_arena_Arena_Take : List Ty := [(.hd 0), (.int .i64), (.int .i64)]
abbrev rs_arena_Arena_Take : List Slot := [.data (.int .i64), .data .err]
abbrev cs_arena_Arena_Take (N : Nat) : List (CallSpec E) := [c_arena_Arena_find N, c_arena_gap N]
noncomputable abbrev b_arena_Arena_Take : Code := (Go.Proofs.Tryd.f11.body).getD .skip

def F_arena_Arena_Take (N : Nat) (T0 : List (List Int × (List (Option Nat) × Unit))) (T1 : List (Int × (Int × (Int × (List ((Int × Int)) × Unit))))) (a_0 : Option Nat) (id_1 : Int) (n_2 : Int) : Option ((List (List Int × (List (Option Nat) × Unit)) × (List (Int × (Int × (Int × (List ((Int × Int)) × Unit)))) × Unit)) × (Int × (Er × Unit))) :=
  Option.bind (F_arena_Arena_find N T0 T1 a_0 id_1) fun y0 =>
  cond (@Option.isNone Nat ((y0).2).1)
    (
    some ((y0).1, ((0 : Int), ((Go.Eng.Er.s ErrNone), ()))))
    (
    cond (decide (n_2 < (1 : Int)))
      (
      some ((y0).1, ((0 : Int), ((Go.Eng.Er.s ErrRange), ()))))
      (
      cond (@Option.isSome Nat ((y0).2).1)
        (
        cond (@Option.isSome Nat ((y0).2).1)
          (
          cond (decide (((0 : Nat) + (List.length (((((List.getD (((y0).1).2).1 (@Option.getD Nat ((y0).2).1 (0 : Nat)) ((0 : Int), ((0 : Int), ((0 : Int), (([] : List (Int × Int)), ())))))).2).2).2).1)) ≤ (List.length (((((List.getD (((y0).1).2).1 (@Option.getD Nat ((y0).2).1 (0 : Nat)) ((0 : Int), ((0 : Int), ((0 : Int), (([] : List (Int × Int)), ())))))).2).2).2).1)))
            (
            Option.bind (F_arena_gap N (List.take (List.length (((((List.getD (((y0).1).2).1 (@Option.getD Nat ((y0).2).1 (0 : Nat)) ((0 : Int), ((0 : Int), ((0 : Int), (([] : List (Int × Int)), ())))))).2).2).2).1) (((((List.getD (((y0).1).2).1 (@Option.getD Nat ((y0).2).1 (0 : Nat)) ((0 : Int), ((0 : Int), ((0 : Int), (([] : List (Int × Int)), ())))))).2).2).2).1) ((((List.getD (((y0).1).2).1 (@Option.getD Nat ((y0).2).1 (0 : Nat)) ((0 : Int), ((0 : Int), ((0 : Int), (([] : List (Int × Int)), ())))))).2).2).1 n_2) fun y1 =>
            cond (Bool.not ((((y1).2).2).2).1)
              (
              some ((y0).1, ((0 : Int), ((Go.Eng.Er.s ErrRoom), ()))))
              (
              cond (@Option.isSome Nat ((y0).2).1)
                (
                cond (decide (((0 : Nat) + (List.length (((((List.getD (((y0).1).2).1 (@Option.getD Nat ((y0).2).1 (0 : Nat)) ((0 : Int), ((0 : Int), ((0 : Int), (([] : List (Int × Int)), ())))))).2).2).2).1)) = (List.length (((((List.getD (((y0).1).2).1 (@Option.getD Nat ((y0).2).1 (0 : Nat)) ((0 : Int), ((0 : Int), ((0 : Int), (([] : List (Int × Int)), ())))))).2).2).2).1)))
                  (
                  cond (decide ((0 : Int) ≤ (((y1).2).2).1))
                    (
                    cond (decide ((Int.toNat (((y1).2).2).1) ≤ (List.length (List.take (List.length (((((List.getD (((y0).1).2).1 (@Option.getD Nat ((y0).2).1 (0 : Nat)) ((0 : Int), ((0 : Int), ((0 : Int), (([] : List (Int × Int)), ())))))).2).2).2).1) (((((List.getD (((y0).1).2).1 (@Option.getD Nat ((y0).2).1 (0 : Nat)) ((0 : Int), ((0 : Int), ((0 : Int), (([] : List (Int × Int)), ())))))).2).2).2).1))))
                      (
                      cond (decide ((((List.length (List.take (List.length (((((List.getD (((y0).1).2).1 (@Option.getD Nat ((y0).2).1 (0 : Nat)) ((0 : Int), ((0 : Int), ((0 : Int), (([] : List (Int × Int)), ())))))).2).2).2).1) (((((List.getD (((y0).1).2).1 (@Option.getD Nat ((y0).2).1 (0 : Nat)) ((0 : Int), ((0 : Int), ((0 : Int), (([] : List (Int × Int)), ())))))).2).2).2).1)) + (1 : Nat)) * ((16 : Nat) + (1 : Nat))) ≤ Go.Eng.most))
                        (
                        cond (@Option.isSome Nat ((y0).2).1)
                          (
                          cond (decide (((0 : Nat) + ((List.length (List.take (List.length (((((List.getD (((y0).1).2).1 (@Option.getD Nat ((y0).2).1 (0 : Nat)) ((0 : Int), ((0 : Int), ((0 : Int), (([] : List (Int × Int)), ())))))).2).2).2).1) (((((List.getD (((y0).1).2).1 (@Option.getD Nat ((y0).2).1 (0 : Nat)) ((0 : Int), ((0 : Int), ((0 : Int), (([] : List (Int × Int)), ())))))).2).2).2).1)) + (1 : Nat))) ≤ (List.length (((List.take (Int.toNat (((y1).2).2).1) (List.take (List.length (((((List.getD (((y0).1).2).1 (@Option.getD Nat ((y0).2).1 (0 : Nat)) ((0 : Int), ((0 : Int), ((0 : Int), (([] : List (Int × Int)), ())))))).2).2).2).1) (((((List.getD (((y0).1).2).1 (@Option.getD Nat ((y0).2).1 (0 : Nat)) ((0 : Int), ((0 : Int), ((0 : Int), (([] : List (Int × Int)), ())))))).2).2).2).1)) ++ ((((y1).2).1, n_2) :: ([] : List (Int × Int)))) ++ (List.drop (Int.toNat (((y1).2).2).1) (List.take (List.length (((((List.getD (((y0).1).2).1 (@Option.getD Nat ((y0).2).1 (0 : Nat)) ((0 : Int), ((0 : Int), ((0 : Int), (([] : List (Int × Int)), ())))))).2).2).2).1) (((((List.getD (((y0).1).2).1 (@Option.getD Nat ((y0).2).1 (0 : Nat)) ((0 : Int), ((0 : Int), ((0 : Int), (([] : List (Int × Int)), ())))))).2).2).2).1))))))
                            (
                            cond (decide ((@Option.getD Nat ((y0).2).1 (0 : Nat)) = (@Option.getD Nat ((y0).2).1 (0 : Nat))))
                              (
                              some ((((y0).1).1, ((List.set (((y0).1).2).1 (@Option.getD Nat ((y0).2).1 (0 : Nat)) (((List.getD (((y0).1).2).1 (@Option.getD Nat ((y0).2).1 (0 : Nat)) ((0 : Int), ((0 : Int), ((0 : Int), (([] : List (Int × Int)), ())))))).1, ((((List.getD (((y0).1).2).1 (@Option.getD Nat ((y0).2).1 (0 : Nat)) ((0 : Int), ((0 : Int), ((0 : Int), (([] : List (Int × Int)), ())))))).2).1, (((((List.getD (((y0).1).2).1 (@Option.getD Nat ((y0).2).1 (0 : Nat)) ((0 : Int), ((0 : Int), ((0 : Int), (([] : List (Int × Int)), ())))))).2).2).1, ((List.take ((List.length (List.take (List.length (((((List.getD (((y0).1).2).1 (@Option.getD Nat ((y0).2).1 (0 : Nat)) ((0 : Int), ((0 : Int), ((0 : Int), (([] : List (Int × Int)), ())))))).2).2).2).1) (((((List.getD (((y0).1).2).1 (@Option.getD Nat ((y0).2).1 (0 : Nat)) ((0 : Int), ((0 : Int), ((0 : Int), (([] : List (Int × Int)), ())))))).2).2).2).1)) + (1 : Nat)) (((List.take (Int.toNat (((y1).2).2).1) (List.take (List.length (((((List.getD (((y0).1).2).1 (@Option.getD Nat ((y0).2).1 (0 : Nat)) ((0 : Int), ((0 : Int), ((0 : Int), (([] : List (Int × Int)), ())))))).2).2).2).1) (((((List.getD (((y0).1).2).1 (@Option.getD Nat ((y0).2).1 (0 : Nat)) ((0 : Int), ((0 : Int), ((0 : Int), (([] : List (Int × Int)), ())))))).2).2).2).1)) ++ ((((y1).2).1, n_2) :: ([] : List (Int × Int)))) ++ (List.drop (Int.toNat (((y1).2).2).1) (List.take (List.length (((((List.getD (((y0).1).2).1 (@Option.getD Nat ((y0).2).1 (0 : Nat)) ((0 : Int), ((0 : Int), ((0 : Int), (([] : List (Int × Int)), ())))))).2).2).2).1) (((((List.getD (((y0).1).2).1 (@Option.getD Nat ((y0).2).1 (0 : Nat)) ((0 : Int), ((0 : Int), ((0 : Int), (([] : List (Int × Int)), ())))))).2).2).2).1)))), (((((List.getD (((y0).1).2).1 (@Option.getD Nat ((y0).2).1 (0 : Nat)) ((0 : Int), ((0 : Int), ((0 : Int), (([] : List (Int × Int)), ())))))).2).2).2).2))))), ())), (((y1).2).1, (Go.Eng.Er.nil, ()))))
                              (
                              none))
                            (
                            none))
                          (
                          none))
                        (
                        none))
                      (
                      none))
                    (
                    none))
                  (
                  none))
                (
                none)))
            (
            none))
          (
          none))
        (
        none)))

abbrev c_arena_Arena_Take (N : Nat) : CallSpec E := ⟨11, ps_arena_Arena_Take, rs_arena_Arena_Take, fun x => F_arena_Arena_Take N x.1.1 x.1.2.1 x.2.1 x.2.2.1 x.2.2.2.1⟩

theorem cs_arena_Arena_Take_ok (S : Ini) (N : Nat) : CallsOK Go.Proofs.Tryd.prog E S (cs_arena_Arena_Take N) :=
  .cons (F_arena_Arena_find_ok S N) (.cons (F_arena_gap_ok S N) (.nil))
theorem F_arena_Arena_Take_ok (S : Ini) (N : Nat) : ∀ x y, (c_arena_Arena_Take N).g x = some y → FCon Go.Proofs.Tryd.prog E S 11 ps_arena_Arena_Take rs_arena_Arena_Take x y := by
  intro x y h
  exact fun_specJ E_ok mixed (cs_arena_Arena_Take_ok S N) (f := 11) (fi := ⟨b_arena_Arena_Take, 53, Go.Proofs.Tryd.f11.results.toList⟩) (by kernel_rfl) (ls := []) (.nil) (js := []) (by kernel_rfl) (ps := ps_arena_Arena_Take) (rs := rs_arena_Arena_Take) (Eq.trans (b := F_arena_Arena_Take N x.1.1 x.1.2.1 x.2.1 x.2.2.1 x.2.2.2.1) (by kernel_rfl) h)

/-! (*lodge/arena.Arena).Drop$1 -/

abbrev ps_arena_Arena_Drop_1 : List Ty := [(.st (.pair (.int .i64) (.int .i64))), (.ref (.int .i64))]
abbrev rs_arena_Arena_Drop_1 : List Slot := [.data .bool]
abbrev cs_arena_Arena_Drop_1 (N : Nat) : List (CallSpec E) := []
noncomputable abbrev b_arena_Arena_Drop_1 : Code := (Go.Proofs.Tryd.f29.body).getD .skip

def F_arena_Arena_Drop_1 (N : Nat) (x_0 : (Int × Int)) (t_1 : Int) : Option (Unit × (Bool × Unit)) :=
  some ((), ((decide ((x_0).1 = t_1)), ()))

abbrev c_arena_Arena_Drop_1 (N : Nat) : CallSpec E := ⟨29, ps_arena_Arena_Drop_1, rs_arena_Arena_Drop_1, fun x => F_arena_Arena_Drop_1 N x.2.1 x.2.2.1⟩

theorem cs_arena_Arena_Drop_1_ok (S : Ini) (N : Nat) : CallsOK Go.Proofs.Tryd.prog E S (cs_arena_Arena_Drop_1 N) :=
  .nil
theorem F_arena_Arena_Drop_1_ok (S : Ini) (N : Nat) : ∀ x y, (c_arena_Arena_Drop_1 N).g x = some y → FCon Go.Proofs.Tryd.prog E S 29 ps_arena_Arena_Drop_1 rs_arena_Arena_Drop_1 x y := by
  intro x y h
  exact fun_specJ E_ok mixed (cs_arena_Arena_Drop_1_ok S N) (f := 29) (fi := ⟨b_arena_Arena_Drop_1, 8, Go.Proofs.Tryd.f29.results.toList⟩) (by kernel_rfl) (ls := []) (.nil) (js := []) (by kernel_rfl) (ps := ps_arena_Arena_Drop_1) (rs := rs_arena_Arena_Drop_1) (Eq.trans (b := F_arena_Arena_Drop_1 N x.2.1 x.2.2.1) (by kernel_rfl) h)

/-! slices.IndexFunc[[]lodge/arena.block,lodge/arena.block] -/

abbrev ps_slices_IndexFunc_arena_block : List Ty := [(.sl (.st (.pair (.int .i64) (.int .i64)))), (.clo 29 (.ref (.int .i64)))]
abbrev rs_slices_IndexFunc_arena_block : List Slot := [.data (.int .i64)]
abbrev cs_slices_IndexFunc_arena_block (N : Nat) : List (CallSpec E) := [c_arena_Arena_Drop_1 N]
noncomputable abbrev b_slices_IndexFunc_arena_block : Code := (Go.Proofs.Tryd.f28.body).getD .skip

abbrev h_slices_IndexFunc_arena_block_0 : List Slot := [.data (.sl (.st (.pair (.int .i64) (.int .i64)))), .data (.clo 29 (.ref (.int .i64))), .dead, .dead, .dead, .dead, .dead, .data (.int .i64), .data (.int .i64), .dead, .dead, .dead, .dead, .dead, .dead, .dead, .dead, .dead, .dead]
abbrev e_slices_IndexFunc_arena_block_0 : List (AX × List Slot) := [(AX.exit 0, [.dead, .dead, .dead, .dead, .dead, .dead, .dead, .dead, .dead, .dead, .dead, .dead, .dead, .dead, .dead, .dead, .dead, .dead, .dead]), (AX.ret, [.dead, .dead, .dead, .dead, .data (.int .i64), .dead, .dead, .dead, .dead, .dead, .dead, .dead, .dead, .dead, .dead, .dead, .dead, .dead, .dead])]
def g_slices_IndexFunc_arena_block_0 (N : Nat) : Nat → List ((Int × Int)) → Int → Int → Int → Option (Sum (Unit × Unit) (Unit × (Int × Unit)))
  | 0, _, _, _, _ => none
  | n + 1, s_0, f_1, t_7, t_8 =>
    cond (decide (t_8 < t_7))
      (
      cond (decide ((0 : Int) ≤ t_8))
        (
        cond (decide ((Int.toNat t_8) < (List.length s_0)))
          (
          Option.bind (F_arena_Arena_Drop_1 N (List.getD s_0 (Int.toNat t_8) ((0 : Int), (0 : Int))) f_1) fun y1 =>
          cond ((y1).2).1
            (
            some (Sum.inr ((), (t_8, ()))))
            (
            (g_slices_IndexFunc_arena_block_0 N n s_0 f_1 t_7 (wi64 (t_8 + (1 : Int))))))
          (
          none))
        (
        none))
      (
      some (Sum.inl ((), ())))

def F_slices_IndexFunc_arena_block (N : Nat) (s_0 : List ((Int × Int))) (f_1 : Int) : Option (Unit × (Int × Unit)) :=
  Option.bind (g_slices_IndexFunc_arena_block_0 N N s_0 f_1 (Nat.cast (List.length s_0) : Int) (0 : Int)) fun y0 =>
  Sum.elim (fun y1 =>
    some ((), ((-(1 : Int)), ())))
    (fun y2 =>
    some ((), (y2).2)) y0

abbrev c_slices_IndexFunc_arena_block (N : Nat) : CallSpec E := ⟨28, ps_slices_IndexFunc_arena_block, rs_slices_IndexFunc_arena_block, fun x => F_slices_IndexFunc_arena_block N x.2.1 x.2.2.1⟩
abbrev l_slices_IndexFunc_arena_block_0 (N : Nat) : LoopSpec E [] := ⟨0, h_slices_IndexFunc_arena_block_0, e_slices_IndexFunc_arena_block_0, fun x => g_slices_IndexFunc_arena_block_0 N N x.2.1 x.2.2.1 x.2.2.2.1 x.2.2.2.2.1⟩

theorem cs_slices_IndexFunc_arena_block_ok (S : Ini) (N : Nat) : CallsOK Go.Proofs.Tryd.prog E S (cs_slices_IndexFunc_arena_block N) :=
  .cons (F_arena_Arena_Drop_1_ok S N) (.nil)
noncomputable abbrev b_slices_IndexFunc_arena_block_0 : Code := (loopsOf b_slices_IndexFunc_arena_block).getD 0 .skip
theorem g_slices_IndexFunc_arena_block_0_ok (S : Ini) (N : Nat) : ∀ n x y, (fun (x : StV E [] h_slices_IndexFunc_arena_block_0) => g_slices_IndexFunc_arena_block_0 N n x.2.1 x.2.2.1 x.2.2.2.1 x.2.2.2.2.1) x = some y → LoopCon Go.Proofs.Tryd.prog E S b_slices_IndexFunc_arena_block_0 (encSlots E [] h_slices_IndexFunc_arena_block_0 x) (encEx E [] e_slices_IndexFunc_arena_block_0 y).1 (encEx E [] e_slices_IndexFunc_arena_block_0 y).2 :=
  loop_specJ E_ok mixed (E_ok.ks 28) (cs_slices_IndexFunc_arena_block_ok S N) (all := loopsOf b_slices_IndexFunc_arena_block) (ls := []) (.nil) (js := []) (i := 0) (by kernel_rfl) (inner_of (by kernel_rfl)) (head := h_slices_IndexFunc_arena_block_0) (ex := e_slices_IndexFunc_arena_block_0) (fun n (x : StV E [] h_slices_IndexFunc_arena_block_0) => g_slices_IndexFunc_arena_block_0 N n x.2.1 x.2.2.1 x.2.2.2.1 x.2.2.2.2.1) (fun _ => rfl) (fun n x => by kernel_rfl)
theorem F_slices_IndexFunc_arena_block_ok (S : Ini) (N : Nat) : ∀ x y, (c_slices_IndexFunc_arena_block N).g x = some y → FCon Go.Proofs.Tryd.prog E S 28 ps_slices_IndexFunc_arena_block rs_slices_IndexFunc_arena_block x y := by
  intro x y h
  exact fun_specJ E_ok mixed (cs_slices_IndexFunc_arena_block_ok S N) (f := 28) (fi := ⟨b_slices_IndexFunc_arena_block, 19, Go.Proofs.Tryd.f28.results.toList⟩) (by kernel_rfl) (ls := [l_slices_IndexFunc_arena_block_0 N]) (.cons (by kernel_rfl) (g_slices_IndexFunc_arena_block_0_ok S N N) (.nil)) (js := []) (by kernel_rfl) (ps := ps_slices_IndexFunc_arena_block) (rs := rs_slices_IndexFunc_arena_block) (Eq.trans (b := F_slices_IndexFunc_arena_block N x.2.1 x.2.2.1) (by kernel_rfl) h)

/-! (*lodge/arena.Arena).Drop -/

abbrev ps_arena_Arena_Drop : List Ty := [(.hd 0), (.int .i64), (.int .i64)]
abbrev rs_arena_Arena_Drop : List Slot := [.data .bool]
abbrev cs_arena_Arena_Drop (N : Nat) : List (CallSpec E) := [c_arena_Arena_find N, c_arena_Arena_Drop_1 N, c_slices_IndexFunc_arena_block N]
noncomputable abbrev b_arena_Arena_Drop : Code := (Go.Proofs.Tryd.f14.body).getD .skip

def F_arena_Arena_Drop (N : Nat) (T0 : List (List Int × (List (Option Nat) × Unit))) (T1 : List (Int × (Int × (Int × (List ((Int × Int)) × Unit))))) (a_0 : Option Nat) (id_1 : Int) (off_2 : Int) : Option ((List (List Int × (List (Option Nat) × Unit)) × (List (Int × (Int × (Int × (List ((Int × Int)) × Unit)))) × Unit)) × (Bool × Unit)) :=
  Option.bind (F_arena_Arena_find N T0 T1 a_0 id_1) fun y0 =>
  cond (@Option.isNone Nat ((y0).2).1)
    (
    some ((y0).1, (false, ())))
    (
    cond (@Option.isSome Nat ((y0).2).1)
      (
      cond (decide (((0 : Nat) + (List.length (((((List.getD (((y0).1).2).1 (@Option.getD Nat ((y0).2).1 (0 : Nat)) ((0 : Int), ((0 : Int), ((0 : Int), (([] : List (Int × Int)), ())))))).2).2).2).1)) ≤ (List.length (((((List.getD (((y0).1).2).1 (@Option.getD Nat ((y0).2).1 (0 : Nat)) ((0 : Int), ((0 : Int), ((0 : Int), (([] : List (Int × Int)), ())))))).2).2).2).1)))
        (
        Option.bind (F_slices_IndexFunc_arena_block N (List.take (List.length (((((List.getD (((y0).1).2).1 (@Option.getD Nat ((y0).2).1 (0 : Nat)) ((0 : Int), ((0 : Int), ((0 : Int), (([] : List (Int × Int)), ())))))).2).2).2).1) (((((List.getD (((y0).1).2).1 (@Option.getD Nat ((y0).2).1 (0 : Nat)) ((0 : Int), ((0 : Int), ((0 : Int), (([] : List (Int × Int)), ())))))).2).2).2).1) off_2) fun y1 =>
        cond (decide (((y1).2).1 < (0 : Int)))
          (
          some ((y0).1, (false, ())))
          (
          cond (@Option.isSome Nat a_0)
            (
            cond (@Option.isSome Nat ((y0).2).1)
              (
              cond (@Option.isSome Nat ((y0).2).1)
                (
                cond (@Option.isSome Nat ((y0).2).1)
                  (
                  cond (decide ((0 : Int) ≤ ((y1).2).1))
                    (
                    cond (decide ((Int.toNat ((y1).2).1) < (List.length (((((List.getD (((y0).1).2).1 (@Option.getD Nat ((y0).2).1 (0 : Nat)) ((0 : Int), ((0 : Int), ((0 : Int), (([] : List (Int × Int)), ())))))).2).2).2).1)))
                      (
                      cond (decide (((0 : Nat) + (Int.toNat ((y1).2).1)) < (List.length (((((List.getD (((y0).1).2).1 (@Option.getD Nat ((y0).2).1 (0 : Nat)) ((0 : Int), ((0 : Int), ((0 : Int), (([] : List (Int × Int)), ())))))).2).2).2).1)))
                        (
                        cond (decide ((0 : Int) ≤ (wi64 ((((List.getD (((y0).1).2).1 (@Option.getD Nat ((y0).2).1 (0 : Nat)) ((0 : Int), ((0 : Int), ((0 : Int), (([] : List (Int × Int)), ())))))).2).1 + off_2))))
                          (
                          cond (decide ((0 : Int) ≤ (wi64 ((wi64 ((((List.getD (((y0).1).2).1 (@Option.getD Nat ((y0).2).1 (0 : Nat)) ((0 : Int), ((0 : Int), ((0 : Int), (([] : List (Int × Int)), ())))))).2).1 + off_2)) + ((List.getD (((((List.getD (((y0).1).2).1 (@Option.getD Nat ((y0).2).1 (0 : Nat)) ((0 : Int), ((0 : Int), ((0 : Int), (([] : List (Int × Int)), ())))))).2).2).2).1 ((0 : Nat) + (Int.toNat ((y1).2).1)) ((0 : Int), (0 : Int)))).2))))
                            (
                            cond (decide ((Int.toNat (wi64 ((((List.getD (((y0).1).2).1 (@Option.getD Nat ((y0).2).1 (0 : Nat)) ((0 : Int), ((0 : Int), ((0 : Int), (([] : List (Int × Int)), ())))))).2).1 + off_2))) ≤ (Int.toNat (wi64 ((wi64 ((((List.getD (((y0).1).2).1 (@Option.getD Nat ((y0).2).1 (0 : Nat)) ((0 : Int), ((0 : Int), ((0 : Int), (([] : List (Int × Int)), ())))))).2).1 + off_2)) + ((List.getD (((((List.getD (((y0).1).2).1 (@Option.getD Nat ((y0).2).1 (0 : Nat)) ((0 : Int), ((0 : Int), ((0 : Int), (([] : List (Int × Int)), ())))))).2).2).2).1 ((0 : Nat) + (Int.toNat ((y1).2).1)) ((0 : Int), (0 : Int)))).2)))))
                              (
                              cond (decide ((Int.toNat (wi64 ((wi64 ((((List.getD (((y0).1).2).1 (@Option.getD Nat ((y0).2).1 (0 : Nat)) ((0 : Int), ((0 : Int), ((0 : Int), (([] : List (Int × Int)), ())))))).2).1 + off_2)) + ((List.getD (((((List.getD (((y0).1).2).1 (@Option.getD Nat ((y0).2).1 (0 : Nat)) ((0 : Int), ((0 : Int), ((0 : Int), (([] : List (Int × Int)), ())))))).2).2).2).1 ((0 : Nat) + (Int.toNat ((y1).2).1)) ((0 : Int), (0 : Int)))).2))) ≤ (List.length ((List.getD ((y0).1).1 (@Option.getD Nat a_0 (0 : Nat)) (([] : List Int), (([] : List (Option Nat)), ())))).1)))
                                (
                                cond (decide ((((0 : Nat) + (Int.toNat (wi64 ((((List.getD (((y0).1).2).1 (@Option.getD Nat ((y0).2).1 (0 : Nat)) ((0 : Int), ((0 : Int), ((0 : Int), (([] : List (Int × Int)), ())))))).2).1 + off_2)))) + ((Int.toNat (wi64 ((wi64 ((((List.getD (((y0).1).2).1 (@Option.getD Nat ((y0).2).1 (0 : Nat)) ((0 : Int), ((0 : Int), ((0 : Int), (([] : List (Int × Int)), ())))))).2).1 + off_2)) + ((List.getD (((((List.getD (((y0).1).2).1 (@Option.getD Nat ((y0).2).1 (0 : Nat)) ((0 : Int), ((0 : Int), ((0 : Int), (([] : List (Int × Int)), ())))))).2).2).2).1 ((0 : Nat) + (Int.toNat ((y1).2).1)) ((0 : Int), (0 : Int)))).2))) - (Int.toNat (wi64 ((((List.getD (((y0).1).2).1 (@Option.getD Nat ((y0).2).1 (0 : Nat)) ((0 : Int), ((0 : Int), ((0 : Int), (([] : List (Int × Int)), ())))))).2).1 + off_2))))) ≤ (List.length ((List.getD ((y0).1).1 (@Option.getD Nat a_0 (0 : Nat)) (([] : List Int), (([] : List (Option Nat)), ())))).1)))
                                  (
                                  cond (@Option.isSome Nat ((y0).2).1)
                                    (
                                    cond (decide (((0 : Nat) + (List.length (((((List.getD (((y0).1).2).1 (@Option.getD Nat ((y0).2).1 (0 : Nat)) ((0 : Int), ((0 : Int), ((0 : Int), (([] : List (Int × Int)), ())))))).2).2).2).1)) = (List.length (((((List.getD (((y0).1).2).1 (@Option.getD Nat ((y0).2).1 (0 : Nat)) ((0 : Int), ((0 : Int), ((0 : Int), (([] : List (Int × Int)), ())))))).2).2).2).1)))
                                      (
                                      cond (decide ((0 : Nat) < (List.length (List.take (List.length (((((List.getD (((y0).1).2).1 (@Option.getD Nat ((y0).2).1 (0 : Nat)) ((0 : Int), ((0 : Int), ((0 : Int), (([] : List (Int × Int)), ())))))).2).2).2).1) (((((List.getD (((y0).1).2).1 (@Option.getD Nat ((y0).2).1 (0 : Nat)) ((0 : Int), ((0 : Int), ((0 : Int), (([] : List (Int × Int)), ())))))).2).2).2).1))))
                                        (
                                        cond (decide ((0 : Int) ≤ ((y1).2).1))
                                          (
                                          cond (decide ((Int.toNat ((y1).2).1) ≤ (Int.toNat (wi64 (((y1).2).1 + (1 : Int))))))
                                            (
                                            cond (decide ((0 : Int) ≤ (wi64 (((y1).2).1 + (1 : Int)))))
                                              (
                                              cond (decide ((Int.toNat (wi64 (((y1).2).1 + (1 : Int)))) ≤ (List.length (List.take (List.length (((((List.getD (((y0).1).2).1 (@Option.getD Nat ((y0).2).1 (0 : Nat)) ((0 : Int), ((0 : Int), ((0 : Int), (([] : List (Int × Int)), ())))))).2).2).2).1) (((((List.getD (((y0).1).2).1 (@Option.getD Nat ((y0).2).1 (0 : Nat)) ((0 : Int), ((0 : Int), ((0 : Int), (([] : List (Int × Int)), ())))))).2).2).2).1))))
                                                (
                                                cond (@Option.isSome Nat ((y0).2).1)
                                                  (
                                                  cond (decide (((0 : Nat) + ((List.length (List.take (List.length (((((List.getD (((y0).1).2).1 (@Option.getD Nat ((y0).2).1 (0 : Nat)) ((0 : Int), ((0 : Int), ((0 : Int), (([] : List (Int × Int)), ())))))).2).2).2).1) (((((List.getD (((y0).1).2).1 (@Option.getD Nat ((y0).2).1 (0 : Nat)) ((0 : Int), ((0 : Int), ((0 : Int), (([] : List (Int × Int)), ())))))).2).2).2).1)) - ((Int.toNat (wi64 (((y1).2).1 + (1 : Int)))) - (Int.toNat ((y1).2).1)))) ≤ (List.length ((List.take (Int.toNat ((y1).2).1) (List.take (List.length (((((List.getD (((y0).1).2).1 (@Option.getD Nat ((y0).2).1 (0 : Nat)) ((0 : Int), ((0 : Int), ((0 : Int), (([] : List (Int × Int)), ())))))).2).2).2).1) (((((List.getD (((y0).1).2).1 (@Option.getD Nat ((y0).2).1 (0 : Nat)) ((0 : Int), ((0 : Int), ((0 : Int), (([] : List (Int × Int)), ())))))).2).2).2).1)) ++ (List.drop (Int.toNat (wi64 (((y1).2).1 + (1 : Int)))) (List.take (List.length (((((List.getD (((y0).1).2).1 (@Option.getD Nat ((y0).2).1 (0 : Nat)) ((0 : Int), ((0 : Int), ((0 : Int), (([] : List (Int × Int)), ())))))).2).2).2).1) (((((List.getD (((y0).1).2).1 (@Option.getD Nat ((y0).2).1 (0 : Nat)) ((0 : Int), ((0 : Int), ((0 : Int), (([] : List (Int × Int)), ())))))).2).2).2).1))))))
                                                    (
                                                    cond (decide ((@Option.getD Nat ((y0).2).1 (0 : Nat)) = (@Option.getD Nat ((y0).2).1 (0 : Nat))))
                                                      (
                                                      some (((List.set ((y0).1).1 (@Option.getD Nat a_0 (0 : Nat)) ((((List.take ((0 : Nat) + (Int.toNat (wi64 ((((List.getD (((y0).1).2).1 (@Option.getD Nat ((y0).2).1 (0 : Nat)) ((0 : Int), ((0 : Int), ((0 : Int), (([] : List (Int × Int)), ())))))).2).1 + off_2)))) ((List.getD ((y0).1).1 (@Option.getD Nat a_0 (0 : Nat)) (([] : List Int), (([] : List (Option Nat)), ())))).1) ++ (List.replicate ((Int.toNat (wi64 ((wi64 ((((List.getD (((y0).1).2).1 (@Option.getD Nat ((y0).2).1 (0 : Nat)) ((0 : Int), ((0 : Int), ((0 : Int), (([] : List (Int × Int)), ())))))).2).1 + off_2)) + ((List.getD (((((List.getD (((y0).1).2).1 (@Option.getD Nat ((y0).2).1 (0 : Nat)) ((0 : Int), ((0 : Int), ((0 : Int), (([] : List (Int × Int)), ())))))).2).2).2).1 ((0 : Nat) + (Int.toNat ((y1).2).1)) ((0 : Int), (0 : Int)))).2))) - (Int.toNat (wi64 ((((List.getD (((y0).1).2).1 (@Option.getD Nat ((y0).2).1 (0 : Nat)) ((0 : Int), ((0 : Int), ((0 : Int), (([] : List (Int × Int)), ())))))).2).1 + off_2)))) (0 : Int))) ++ (List.drop (((0 : Nat) + (Int.toNat (wi64 ((((List.getD (((y0).1).2).1 (@Option.getD Nat ((y0).2).1 (0 : Nat)) ((0 : Int), ((0 : Int), ((0 : Int), (([] : List (Int × Int)), ())))))).2).1 + off_2)))) + ((Int.toNat (wi64 ((wi64 ((((List.getD (((y0).1).2).1 (@Option.getD Nat ((y0).2).1 (0 : Nat)) ((0 : Int), ((0 : Int), ((0 : Int), (([] : List (Int × Int)), ())))))).2).1 + off_2)) + ((List.getD (((((List.getD (((y0).1).2).1 (@Option.getD Nat ((y0).2).1 (0 : Nat)) ((0 : Int), ((0 : Int), ((0 : Int), (([] : List (Int × Int)), ())))))).2).2).2).1 ((0 : Nat) + (Int.toNat ((y1).2).1)) ((0 : Int), (0 : Int)))).2))) - (Int.toNat (wi64 ((((List.getD (((y0).1).2).1 (@Option.getD Nat ((y0).2).1 (0 : Nat)) ((0 : Int), ((0 : Int), ((0 : Int), (([] : List (Int × Int)), ())))))).2).1 + off_2))))) ((List.getD ((y0).1).1 (@Option.getD Nat a_0 (0 : Nat)) (([] : List Int), (([] : List (Option Nat)), ())))).1)), ((List.getD ((y0).1).1 (@Option.getD Nat a_0 (0 : Nat)) (([] : List Int), (([] : List (Option Nat)), ())))).2)), ((List.set (((y0).1).2).1 (@Option.getD Nat ((y0).2).1 (0 : Nat)) (((List.getD (((y0).1).2).1 (@Option.getD Nat ((y0).2).1 (0 : Nat)) ((0 : Int), ((0 : Int), ((0 : Int), (([] : List (Int × Int)), ())))))).1, ((((List.getD (((y0).1).2).1 (@Option.getD Nat ((y0).2).1 (0 : Nat)) ((0 : Int), ((0 : Int), ((0 : Int), (([] : List (Int × Int)), ())))))).2).1, (((((List.getD (((y0).1).2).1 (@Option.getD Nat ((y0).2).1 (0 : Nat)) ((0 : Int), ((0 : Int), ((0 : Int), (([] : List (Int × Int)), ())))))).2).2).1, ((List.take ((List.length (List.take (List.length (((((List.getD (((y0).1).2).1 (@Option.getD Nat ((y0).2).1 (0 : Nat)) ((0 : Int), ((0 : Int), ((0 : Int), (([] : List (Int × Int)), ())))))).2).2).2).1) (((((List.getD (((y0).1).2).1 (@Option.getD Nat ((y0).2).1 (0 : Nat)) ((0 : Int), ((0 : Int), ((0 : Int), (([] : List (Int × Int)), ())))))).2).2).2).1)) - ((Int.toNat (wi64 (((y1).2).1 + (1 : Int)))) - (Int.toNat ((y1).2).1))) ((List.take (Int.toNat ((y1).2).1) (List.take (List.length (((((List.getD (((y0).1).2).1 (@Option.getD Nat ((y0).2).1 (0 : Nat)) ((0 : Int), ((0 : Int), ((0 : Int), (([] : List (Int × Int)), ())))))).2).2).2).1) (((((List.getD (((y0).1).2).1 (@Option.getD Nat ((y0).2).1 (0 : Nat)) ((0 : Int), ((0 : Int), ((0 : Int), (([] : List (Int × Int)), ())))))).2).2).2).1)) ++ (List.drop (Int.toNat (wi64 (((y1).2).1 + (1 : Int)))) (List.take (List.length (((((List.getD (((y0).1).2).1 (@Option.getD Nat ((y0).2).1 (0 : Nat)) ((0 : Int), ((0 : Int), ((0 : Int), (([] : List (Int × Int)), ())))))).2).2).2).1) (((((List.getD (((y0).1).2).1 (@Option.getD Nat ((y0).2).1 (0 : Nat)) ((0 : Int), ((0 : Int), ((0 : Int), (([] : List (Int × Int)), ())))))).2).2).2).1)))), (((((List.getD (((y0).1).2).1 (@Option.getD Nat ((y0).2).1 (0 : Nat)) ((0 : Int), ((0 : Int), ((0 : Int), (([] : List (Int × Int)), ())))))).2).2).2).2))))), ())), (true, ())))
                                                      (
                                                      none))
                                                    (
                                                    none))
                                                  (
                                                  none))
                                                (
                                                none))
                                              (
                                              none))
                                            (
                                            none))
                                          (
                                          none))
                                        (
                                        none))
                                      (
                                      none))
                                    (
                                    none))
                                  (
                                  none))
                                (
                                none))
                              (
                              none))
                            (
                            none))
                          (
                          none))
                        (
                        none))
                      (
                      none))
                    (
                    none))
                  (
                  none))
                (
                none))
              (
              none))
            (
            none)))
        (
        none))
      (
      none))

abbrev c_arena_Arena_Drop (N : Nat) : CallSpec E := ⟨14, ps_arena_Arena_Drop, rs_arena_Arena_Drop, fun x => F_arena_Arena_Drop N x.1.1 x.1.2.1 x.2.1 x.2.2.1 x.2.2.2.1⟩

theorem cs_arena_Arena_Drop_ok (S : Ini) (N : Nat) : CallsOK Go.Proofs.Tryd.prog E S (cs_arena_Arena_Drop N) :=
  .cons (F_arena_Arena_find_ok S N) (.cons (F_arena_Arena_Drop_1_ok S N) (.cons (F_slices_IndexFunc_arena_block_ok S N) (.nil)))
theorem F_arena_Arena_Drop_ok (S : Ini) (N : Nat) : ∀ x y, (c_arena_Arena_Drop N).g x = some y → FCon Go.Proofs.Tryd.prog E S 14 ps_arena_Arena_Drop rs_arena_Arena_Drop x y := by
  intro x y h
  exact fun_specJ E_ok mixed (cs_arena_Arena_Drop_ok S N) (f := 14) (fi := ⟨b_arena_Arena_Drop, 61, Go.Proofs.Tryd.f14.results.toList⟩) (by kernel_rfl) (ls := []) (.nil) (js := []) (by kernel_rfl) (ps := ps_arena_Arena_Drop) (rs := rs_arena_Arena_Drop) (Eq.trans (b := F_arena_Arena_Drop N x.1.1 x.1.2.1 x.2.1 x.2.2.1 x.2.2.2.1) (by kernel_rfl) h)

/-! lodge/lodgelaw13.first -/

abbrev ps_lodgelaw13_first : List Ty := []
abbrev rs_lodgelaw13_first : List Slot := [.data .bool]
abbrev cs_lodgelaw13_first (N : Nat) : List (CallSpec E) := [c_arena_New N, c_arena_Arena_Add N, c_arena_Arena_Take N, c_arena_Arena_Drop N]
noncomputable abbrev b_lodgelaw13_first : Code := (Go.Proofs.Tryd.f7.body).getD .skip

def F_lodgelaw13_first (N : Nat) (T0 : List (List Int × (List (Option Nat) × Unit))) (T1 : List (Int × (Int × (Int × (List ((Int × Int)) × Unit))))) : Option ((List (List Int × (List (Option Nat) × Unit)) × (List (Int × (Int × (Int × (List ((Int × Int)) × Unit)))) × Unit)) × (Bool × Unit)) :=
  Option.bind (F_arena_New N T0 T1 (100 : Int)) fun y0 =>
  cond (@Option.isNone Nat ((y0).2).1)
    (
    some ((y0).1, (false, ())))
    (
    cond (Bool.not (Go.Eng.Er.isNil (((y0).2).2).1))
      (
      some ((y0).1, (false, ())))
      (
      Option.bind (F_arena_Arena_Add N ((y0).1).1 (((y0).1).2).1 ((y0).2).1 (1 : Int) (50 : Int)) fun y1 =>
      Option.bind (F_arena_Arena_Take N ((y1).1).1 (((y1).1).2).1 ((y0).2).1 (1 : Int) (4 : Int)) fun y2 =>
      Option.bind (F_arena_Arena_Take N ((y2).1).1 (((y2).1).2).1 ((y0).2).1 (1 : Int) (4 : Int)) fun y3 =>
      Option.bind (F_arena_Arena_Drop N ((y3).1).1 (((y3).1).2).1 ((y0).2).1 (1 : Int) ((y2).2).1) fun y4 =>
      Option.bind (F_arena_Arena_Take N ((y4).1).1 (((y4).1).2).1 ((y0).2).1 (1 : Int) (2 : Int)) fun y5 =>
      cond (Go.Eng.Er.isNil (((y1).2).2).1)
        (
        cond (Go.Eng.Er.isNil (((y2).2).2).1)
          (
          cond (Go.Eng.Er.isNil (((y3).2).2).1)
            (
            cond (Go.Eng.Er.isNil (((y5).2).2).1)
              (
              cond ((y4).2).1
                (
                cond (decide (((y2).2).1 = (0 : Int)))
                  (
                  cond (decide (((y3).2).1 = (4 : Int)))
                    (
                    some ((y5).1, ((decide (((y5).2).1 = (0 : Int))), ())))
                    (
                    some ((y5).1, (false, ()))))
                  (
                  some ((y5).1, (false, ()))))
                (
                some ((y5).1, (false, ()))))
              (
              some ((y5).1, (false, ()))))
            (
            some ((y5).1, (false, ()))))
          (
          some ((y5).1, (false, ()))))
        (
        some ((y5).1, (false, ())))))

abbrev c_lodgelaw13_first (N : Nat) : CallSpec E := ⟨7, ps_lodgelaw13_first, rs_lodgelaw13_first, fun x => F_lodgelaw13_first N x.1.1 x.1.2.1⟩

theorem cs_lodgelaw13_first_ok (S : Ini) (N : Nat) : CallsOK Go.Proofs.Tryd.prog E S (cs_lodgelaw13_first N) :=
  .cons (F_arena_New_ok S N) (.cons (F_arena_Arena_Add_ok S N) (.cons (F_arena_Arena_Take_ok S N) (.cons (F_arena_Arena_Drop_ok S N) (.nil))))
theorem F_lodgelaw13_first_ok (S : Ini) (N : Nat) : ∀ x y, (c_lodgelaw13_first N).g x = some y → FCon Go.Proofs.Tryd.prog E S 7 ps_lodgelaw13_first rs_lodgelaw13_first x y := by
  intro x y h
  exact fun_specJ E_ok mixed (cs_lodgelaw13_first_ok S N) (f := 7) (fi := ⟨b_lodgelaw13_first, 74, Go.Proofs.Tryd.f7.results.toList⟩) (by kernel_rfl) (ls := []) (.nil) (js := []) (by kernel_rfl) (ps := ps_lodgelaw13_first) (rs := rs_lodgelaw13_first) (Eq.trans (b := F_lodgelaw13_first N x.1.1 x.1.2.1) (by kernel_rfl) h)

/-! lodge/lodgeworld.Number -/

abbrev ps_lodgeworld_Number : List Ty := [(.int .i64), (.int .i64)]
abbrev rs_lodgeworld_Number : List Slot := [.data (.int .i64)]
abbrev cs_lodgeworld_Number (N : Nat) : List (CallSpec E) := []
noncomputable abbrev b_lodgeworld_Number : Code := (Go.Proofs.Tryd.f8.body).getD .skip

def F_lodgeworld_Number (N : Nat) (n_0 : Int) (below_1 : Int) : Option (Unit × (Int × Unit)) :=
  cond (decide (@Ne Int below_1 (0 : Int)))
    (
    cond (decide (@Ne Int below_1 (0 : Int)))
      (
      some ((), ((Int.tmod (wi64 ((Int.tmod n_0 below_1) + below_1)) below_1), ())))
      (
      none))
    (
    none)

abbrev c_lodgeworld_Number (N : Nat) : CallSpec E := ⟨8, ps_lodgeworld_Number, rs_lodgeworld_Number, fun x => F_lodgeworld_Number N x.2.1 x.2.2.1⟩

theorem cs_lodgeworld_Number_ok (S : Ini) (N : Nat) : CallsOK Go.Proofs.Tryd.prog E S (cs_lodgeworld_Number N) :=
  .nil
theorem F_lodgeworld_Number_ok (S : Ini) (N : Nat) : ∀ x y, (c_lodgeworld_Number N).g x = some y → FCon Go.Proofs.Tryd.prog E S 8 ps_lodgeworld_Number rs_lodgeworld_Number x y := by
  intro x y h
  exact fun_specJ E_ok mixed (cs_lodgeworld_Number_ok S N) (f := 8) (fi := ⟨b_lodgeworld_Number, 12, Go.Proofs.Tryd.f8.results.toList⟩) (by kernel_rfl) (ls := []) (.nil) (js := []) (by kernel_rfl) (ps := ps_lodgeworld_Number) (rs := rs_lodgeworld_Number) (Eq.trans (b := F_lodgeworld_Number N x.2.1 x.2.2.1) (by kernel_rfl) h)

/-! lodge/lodgeref.Bare -/

abbrev ps_lodgeref_Bare : List Ty := [(.int .i64)]
abbrev rs_lodgeref_Bare : List Slot := [.data (.st (.pair (.int .i64) (.pair .bool (.int .i64))))]
abbrev cs_lodgeref_Bare (N : Nat) : List (CallSpec E) := []
noncomputable abbrev b_lodgeref_Bare : Code := (Go.Proofs.Tryd.f27.body).getD .skip

def F_lodgeref_Bare (N : Nat) (code_0 : Int) : Option (Unit × ((Int × (Bool × Int)) × Unit)) :=
  some ((), ((code_0, (false, (0 : Int))), ()))

abbrev c_lodgeref_Bare (N : Nat) : CallSpec E := ⟨27, ps_lodgeref_Bare, rs_lodgeref_Bare, fun x => F_lodgeref_Bare N x.2.1⟩

theorem cs_lodgeref_Bare_ok (S : Ini) (N : Nat) : CallsOK Go.Proofs.Tryd.prog E S (cs_lodgeref_Bare N) :=
  .nil
theorem F_lodgeref_Bare_ok (S : Ini) (N : Nat) : ∀ x y, (c_lodgeref_Bare N).g x = some y → FCon Go.Proofs.Tryd.prog E S 27 ps_lodgeref_Bare rs_lodgeref_Bare x y := by
  intro x y h
  exact fun_specJ E_ok mixed (cs_lodgeref_Bare_ok S N) (f := 27) (fi := ⟨b_lodgeref_Bare, 5, Go.Proofs.Tryd.f27.results.toList⟩) (by kernel_rfl) (ls := []) (.nil) (js := []) (by kernel_rfl) (ps := ps_lodgeref_Bare) (rs := rs_lodgeref_Bare) (Eq.trans (b := F_lodgeref_Bare N x.2.1) (by kernel_rfl) h)

/-! lodge/lodgeref.None -/

abbrev ps_lodgeref_None : List Ty := []
abbrev rs_lodgeref_None : List Slot := [.data (.st (.pair (.int .i64) (.pair .bool (.int .i64))))]
abbrev cs_lodgeref_None (N : Nat) : List (CallSpec E) := []
noncomputable abbrev b_lodgeref_None : Code := (Go.Proofs.Tryd.f46.body).getD .skip

def F_lodgeref_None (N : Nat)  : Option (Unit × ((Int × (Bool × Int)) × Unit)) :=
  some ((), (((0 : Int), (false, (0 : Int))), ()))

abbrev c_lodgeref_None (N : Nat) : CallSpec E := ⟨46, ps_lodgeref_None, rs_lodgeref_None, fun x => F_lodgeref_None N ⟩

theorem cs_lodgeref_None_ok (S : Ini) (N : Nat) : CallsOK Go.Proofs.Tryd.prog E S (cs_lodgeref_None N) :=
  .nil
theorem F_lodgeref_None_ok (S : Ini) (N : Nat) : ∀ x y, (c_lodgeref_None N).g x = some y → FCon Go.Proofs.Tryd.prog E S 46 ps_lodgeref_None rs_lodgeref_None x y := by
  intro x y h
  exact fun_specJ E_ok mixed (cs_lodgeref_None_ok S N) (f := 46) (fi := ⟨b_lodgeref_None, 2, Go.Proofs.Tryd.f46.results.toList⟩) (by kernel_rfl) (ls := []) (.nil) (js := []) (by kernel_rfl) (ps := ps_lodgeref_None) (rs := rs_lodgeref_None) (Eq.trans (b := F_lodgeref_None N ) (by kernel_rfl) h)

/-! lodge/lodgesee.sentinels -/

abbrev ps_lodgesee_sentinels : List Ty := []
abbrev rs_lodgesee_sentinels : List Slot := [.sl .err]
abbrev cs_lodgesee_sentinels (N : Nat) : List (CallSpec E) := []
noncomputable abbrev b_lodgesee_sentinels : Code := (Go.Proofs.Tryd.f51.body).getD .skip

def F_lodgesee_sentinels (N : Nat)  : Option (Unit × (List Er × Unit)) :=
  some ((), (((Go.Eng.Er.s ErrShape) :: ((Go.Eng.Er.s ErrRange) :: ((Go.Eng.Er.s ErrKind) :: ((Go.Eng.Er.s ErrMany) :: ((Go.Eng.Er.s ErrEnd) :: ((Go.Eng.Er.s ErrRoom) :: ((Go.Eng.Er.s ErrNone) :: ((Go.Eng.Er.s ErrAlias) :: ((Go.Eng.Er.s ErrCost) :: ((Go.Eng.Er.s ErrJump) :: ((Go.Eng.Er.s ErrCycle) :: ((Go.Eng.Er.s ErrFuel) :: ((Go.Eng.Er.s ErrFull) :: ((Go.Eng.Er.s ErrQuota) :: ((Go.Eng.Er.s ErrCap) :: ((Go.Eng.Er.s ErrStale) :: ((Go.Eng.Er.s ErrTag) :: ((Go.Eng.Er.s ErrOld) :: ((Go.Eng.Er.s ErrTenant) :: ((Go.Eng.Er.s ErrWord) :: ((Go.Eng.Er.s ErrNumber) :: ([] : List Go.Eng.Er)))))))))))))))))))))), ()))

abbrev c_lodgesee_sentinels (N : Nat) : CallSpec E := ⟨51, ps_lodgesee_sentinels, rs_lodgesee_sentinels, fun x => F_lodgesee_sentinels N ⟩

theorem cs_lodgesee_sentinels_ok (S : Ini) (N : Nat) : CallsOK Go.Proofs.Tryd.prog E S (cs_lodgesee_sentinels N) :=
  .nil
theorem F_lodgesee_sentinels_ok (S : Ini) (N : Nat) : ∀ x y, (c_lodgesee_sentinels N).g x = some y → FCon Go.Proofs.Tryd.prog E S 51 ps_lodgesee_sentinels rs_lodgesee_sentinels x y := by
  intro x y h
  exact fun_specJ E_ok mixed (cs_lodgesee_sentinels_ok S N) (f := 51) (fi := ⟨b_lodgesee_sentinels, 23, Go.Proofs.Tryd.f51.results.toList⟩) (by kernel_rfl) (ls := []) (.nil) (js := []) (by kernel_rfl) (ps := ps_lodgesee_sentinels) (rs := rs_lodgesee_sentinels) (Eq.trans (b := F_lodgesee_sentinels N ) (by kernel_rfl) h)

/-! lodge/lodgesee.Alike -/

abbrev ps_lodgesee_Alike : List Ty := [.err, .err]
abbrev rs_lodgesee_Alike : List Slot := [.data .bool]
abbrev cs_lodgesee_Alike (N : Nat) : List (CallSpec E) := []
noncomputable abbrev b_lodgesee_Alike : Code := (Go.Proofs.Tryd.f52.body).getD .skip

def F_lodgesee_Alike (N : Nat) (a_0 : Er) (b_1 : Er) : Option (Unit × (Bool × Unit)) :=
  cond (Go.Eng.Er.isNil a_0)
    (
    cond (Go.Eng.Er.isNil a_0)
      (
      some ((), ((Go.Eng.Er.isNil b_1), ())))
      (
      some ((), (false, ()))))
    (
    cond (Go.Eng.Er.isNil b_1)
      (
      cond (Go.Eng.Er.isNil a_0)
        (
        some ((), ((Go.Eng.Er.isNil b_1), ())))
        (
        some ((), (false, ()))))
      (
      cond (Go.Eng.okEq a_0 b_1)
        (
        some ((), ((decide (a_0 = b_1)), ())))
        (
        none)))

abbrev c_lodgesee_Alike (N : Nat) : CallSpec E := ⟨52, ps_lodgesee_Alike, rs_lodgesee_Alike, fun x => F_lodgesee_Alike N x.2.1 x.2.2.1⟩

theorem cs_lodgesee_Alike_ok (S : Ini) (N : Nat) : CallsOK Go.Proofs.Tryd.prog E S (cs_lodgesee_Alike N) :=
  .nil
theorem F_lodgesee_Alike_ok (S : Ini) (N : Nat) : ∀ x y, (c_lodgesee_Alike N).g x = some y → FCon Go.Proofs.Tryd.prog E S 52 ps_lodgesee_Alike rs_lodgesee_Alike x y := by
  intro x y h
  exact fun_specJ E_ok mixed (cs_lodgesee_Alike_ok S N) (f := 52) (fi := ⟨b_lodgesee_Alike, 20, Go.Proofs.Tryd.f52.results.toList⟩) (by kernel_rfl) (ls := []) (.nil) (js := []) (by kernel_rfl) (ps := ps_lodgesee_Alike) (rs := rs_lodgesee_Alike) (Eq.trans (b := F_lodgesee_Alike N x.2.1 x.2.2.1) (by kernel_rfl) h)

/-! lodge/lodgesee.sentinel -/

abbrev ps_lodgesee_sentinel : List Ty := [.err]
abbrev rs_lodgesee_sentinel : List Slot := [.data (.int .i64)]
abbrev cs_lodgesee_sentinel (N : Nat) : List (CallSpec E) := [c_lodgesee_sentinels N, c_lodgesee_Alike N]
noncomputable abbrev b_lodgesee_sentinel : Code := (Go.Proofs.Tryd.f47.body).getD .skip

abbrev h_lodgesee_sentinel_0 : List Slot := [.data .err, .dead, .dead, .sl .err, .data (.int .i64), .dead, .dead, .dead, .dead, .dead, .dead, .dead, .dead, .dead, .dead, .dead, .dead, .dead, .dead, .dead]
abbrev e_lodgesee_sentinel_0 : List (AX × List Slot) := [(AX.exit 0, [.dead, .dead, .dead, .dead, .dead, .dead, .dead, .dead, .dead, .dead, .dead, .dead, .dead, .dead, .dead, .dead, .dead, .dead, .dead, .dead]), (AX.ret, [.dead, .dead, .data (.int .i64), .dead, .dead, .dead, .dead, .dead, .dead, .dead, .dead, .dead, .dead, .dead, .dead, .dead, .dead, .dead, .dead, .dead])]
def g_lodgesee_sentinel_0 (N : Nat) : Nat → Er → List Er → Int → Option (Sum (Unit × Unit) (Unit × (Int × Unit)))
  | 0, _, _, _ => none
  | n + 1, e_0, l_3, i_4 =>
    cond (decide (i_4 < (Nat.cast (List.length l_3) : Int)))
      (
      cond (decide ((0 : Int) ≤ i_4))
        (
        cond (decide ((Int.toNat i_4) < (List.length l_3)))
          (
          cond (decide (((0 : Nat) + (Int.toNat i_4)) < (List.length l_3)))
            (
            Option.bind (F_lodgesee_Alike N e_0 (List.getD l_3 ((0 : Nat) + (Int.toNat i_4)) Go.Eng.Er.nil)) fun y2 =>
            cond ((y2).2).1
              (
              some (Sum.inr ((), ((wi64 ((101 : Int) + i_4)), ()))))
              (
              cond (decide ((List.length l_3) = (List.length l_3)))
                (
                (g_lodgesee_sentinel_0 N n e_0 l_3 (wi64 (i_4 + (1 : Int)))))
                (
                none)))
            (
            none))
          (
          none))
        (
        none))
      (
      some (Sum.inl ((), ())))

def F_lodgesee_sentinel (N : Nat) (e_0 : Er) : Option (Unit × (Int × Unit)) :=
  Option.bind (F_lodgesee_sentinels N) fun y0 =>
  cond (decide ((List.length ((y0).2).1) = (List.length ((y0).2).1)))
    (
    Option.bind (g_lodgesee_sentinel_0 N N e_0 ((y0).2).1 (0 : Int)) fun y1 =>
    Sum.elim (fun y2 =>
      some ((), ((-(1 : Int)), ())))
      (fun y3 =>
      some ((), (y3).2)) y1)
    (
    none)

abbrev c_lodgesee_sentinel (N : Nat) : CallSpec E := ⟨47, ps_lodgesee_sentinel, rs_lodgesee_sentinel, fun x => F_lodgesee_sentinel N x.2.1⟩
abbrev l_lodgesee_sentinel_0 (N : Nat) : LoopSpec E [] := ⟨0, h_lodgesee_sentinel_0, e_lodgesee_sentinel_0, fun x => g_lodgesee_sentinel_0 N N x.2.1 x.2.2.1 x.2.2.2.1⟩

theorem cs_lodgesee_sentinel_ok (S : Ini) (N : Nat) : CallsOK Go.Proofs.Tryd.prog E S (cs_lodgesee_sentinel N) :=
  .cons (F_lodgesee_sentinels_ok S N) (.cons (F_lodgesee_Alike_ok S N) (.nil))
noncomputable abbrev b_lodgesee_sentinel_0 : Code := (loopsOf b_lodgesee_sentinel).getD 0 .skip
theorem g_lodgesee_sentinel_0_ok (S : Ini) (N : Nat) : ∀ n x y, (fun (x : StV E [] h_lodgesee_sentinel_0) => g_lodgesee_sentinel_0 N n x.2.1 x.2.2.1 x.2.2.2.1) x = some y → LoopCon Go.Proofs.Tryd.prog E S b_lodgesee_sentinel_0 (encSlots E [] h_lodgesee_sentinel_0 x) (encEx E [] e_lodgesee_sentinel_0 y).1 (encEx E [] e_lodgesee_sentinel_0 y).2 :=
  loop_specJ E_ok mixed (E_ok.ks 47) (cs_lodgesee_sentinel_ok S N) (all := loopsOf b_lodgesee_sentinel) (ls := []) (.nil) (js := []) (i := 0) (by kernel_rfl) (inner_of (by kernel_rfl)) (head := h_lodgesee_sentinel_0) (ex := e_lodgesee_sentinel_0) (fun n (x : StV E [] h_lodgesee_sentinel_0) => g_lodgesee_sentinel_0 N n x.2.1 x.2.2.1 x.2.2.2.1) (fun _ => rfl) (fun n x => by kernel_rfl)
theorem F_lodgesee_sentinel_ok (S : Ini) (N : Nat) : ∀ x y, (c_lodgesee_sentinel N).g x = some y → FCon Go.Proofs.Tryd.prog E S 47 ps_lodgesee_sentinel rs_lodgesee_sentinel x y := by
  intro x y h
  exact fun_specJ E_ok mixed (cs_lodgesee_sentinel_ok S N) (f := 47) (fi := ⟨b_lodgesee_sentinel, 20, Go.Proofs.Tryd.f47.results.toList⟩) (by kernel_rfl) (ls := [l_lodgesee_sentinel_0 N]) (.cons (by kernel_rfl) (g_lodgesee_sentinel_0_ok S N N) (.nil)) (js := []) (by kernel_rfl) (ps := ps_lodgesee_sentinel) (rs := rs_lodgesee_sentinel) (Eq.trans (b := F_lodgesee_sentinel N x.2.1) (by kernel_rfl) h)

/-! lodge/lodgeref.Placed -/

abbrev ps_lodgeref_Placed : List Ty := [(.int .i64), (.int .i64)]
abbrev rs_lodgeref_Placed : List Slot := [.data (.st (.pair (.int .i64) (.pair .bool (.int .i64))))]
abbrev cs_lodgeref_Placed (N : Nat) : List (CallSpec E) := [c_lodgeref_None N]
noncomputable abbrev b_lodgeref_Placed : Code := (Go.Proofs.Tryd.f48.body).getD .skip

def F_lodgeref_Placed (N : Nat) (code_0 : Int) (pos_1 : Int) : Option (Unit × ((Int × (Bool × Int)) × Unit)) :=
  cond (decide (code_0 = (0 : Int)))
    (
    Option.bind (F_lodgeref_None N) fun y0 =>
    some ((), (y0).2))
    (
    some ((), ((code_0, (true, pos_1)), ())))

abbrev c_lodgeref_Placed (N : Nat) : CallSpec E := ⟨48, ps_lodgeref_Placed, rs_lodgeref_Placed, fun x => F_lodgeref_Placed N x.2.1 x.2.2.1⟩

theorem cs_lodgeref_Placed_ok (S : Ini) (N : Nat) : CallsOK Go.Proofs.Tryd.prog E S (cs_lodgeref_Placed N) :=
  .cons (F_lodgeref_None_ok S N) (.nil)
theorem F_lodgeref_Placed_ok (S : Ini) (N : Nat) : ∀ x y, (c_lodgeref_Placed N).g x = some y → FCon Go.Proofs.Tryd.prog E S 48 ps_lodgeref_Placed rs_lodgeref_Placed x y := by
  intro x y h
  exact fun_specJ E_ok mixed (cs_lodgeref_Placed_ok S N) (f := 48) (fi := ⟨b_lodgeref_Placed, 11, Go.Proofs.Tryd.f48.results.toList⟩) (by kernel_rfl) (ls := []) (.nil) (js := []) (by kernel_rfl) (ps := ps_lodgeref_Placed) (rs := rs_lodgeref_Placed) (Eq.trans (b := F_lodgeref_Placed N x.2.1 x.2.2.1) (by kernel_rfl) h)

/-! lodge/lodgesee.Fault -/

abbrev ps_lodgesee_Fault : List Ty := [.err]
abbrev rs_lodgesee_Fault : List Slot := [.data (.st (.pair (.int .i64) (.pair .bool (.int .i64))))]
abbrev cs_lodgesee_Fault (N : Nat) : List (CallSpec E) := [c_lodgeref_Bare N, c_lodgeref_None N, c_lodgesee_sentinel N, c_lodgeref_Placed N]
noncomputable abbrev b_lodgesee_Fault : Code := (Go.Proofs.Tryd.f42.body).getD .skip

def F_lodgesee_Fault (N : Nat) (e_0 : Er) : Option (Unit × ((Int × (Bool × Int)) × Unit)) :=
  cond (Go.Eng.Er.isNil e_0)
    (
    Option.bind (F_lodgeref_None N) fun y0 =>
    some ((), (y0).2))
    (
    cond (Go.Eng.Er.isAt e_0)
      (
      Option.bind (F_lodgesee_sentinel N (Go.Eng.Er.s (Go.Eng.Er.gix e_0))) fun y1 =>
      Option.bind (F_lodgeref_Placed N ((y1).2).1 (Go.Eng.Er.pos e_0)) fun y2 =>
      some ((), (y2).2))
      (
      Option.bind (F_lodgesee_sentinel N e_0) fun y3 =>
      Option.bind (F_lodgeref_Bare N ((y3).2).1) fun y4 =>
      some ((), (y4).2)))

abbrev c_lodgesee_Fault (N : Nat) : CallSpec E := ⟨42, ps_lodgesee_Fault, rs_lodgesee_Fault, fun x => F_lodgesee_Fault N x.2.1⟩

theorem cs_lodgesee_Fault_ok (S : Ini) (N : Nat) : CallsOK Go.Proofs.Tryd.prog E S (cs_lodgesee_Fault N) :=
  .cons (F_lodgeref_Bare_ok S N) (.cons (F_lodgeref_None_ok S N) (.cons (F_lodgesee_sentinel_ok S N) (.cons (F_lodgeref_Placed_ok S N) (.nil))))
theorem F_lodgesee_Fault_ok (S : Ini) (N : Nat) : ∀ x y, (c_lodgesee_Fault N).g x = some y → FCon Go.Proofs.Tryd.prog E S 42 ps_lodgesee_Fault rs_lodgesee_Fault x y := by
  intro x y h
  exact fun_specJ E_ok mixed (cs_lodgesee_Fault_ok S N) (f := 42) (fi := ⟨b_lodgesee_Fault, 38, Go.Proofs.Tryd.f42.results.toList⟩) (by kernel_rfl) (ls := []) (.nil) (js := []) (by kernel_rfl) (ps := ps_lodgesee_Fault) (rs := rs_lodgesee_Fault) (Eq.trans (b := F_lodgesee_Fault N x.2.1) (by kernel_rfl) h)

/-! lodge/lodgeref.SameFault -/

abbrev ps_lodgeref_SameFault : List Ty := [(.st (.pair (.int .i64) (.pair .bool (.int .i64)))), (.st (.pair (.int .i64) (.pair .bool (.int .i64))))]
abbrev rs_lodgeref_SameFault : List Slot := [.data .bool]
abbrev cs_lodgeref_SameFault (N : Nat) : List (CallSpec E) := []
noncomputable abbrev b_lodgeref_SameFault : Code := (Go.Proofs.Tryd.f41.body).getD .skip

def F_lodgeref_SameFault (N : Nat) (a_0 : (Int × (Bool × Int))) (b_1 : (Int × (Bool × Int))) : Option (Unit × (Bool × Unit)) :=
  cond (decide ((a_0).1 = (b_1).1))
    (
    cond (((a_0).2).1 == ((b_1).2).1)
      (
      some ((), ((decide (((a_0).2).2 = ((b_1).2).2)), ())))
      (
      some ((), (false, ()))))
    (
    some ((), (false, ())))

abbrev c_lodgeref_SameFault (N : Nat) : CallSpec E := ⟨41, ps_lodgeref_SameFault, rs_lodgeref_SameFault, fun x => F_lodgeref_SameFault N x.2.1 x.2.2.1⟩

theorem cs_lodgeref_SameFault_ok (S : Ini) (N : Nat) : CallsOK Go.Proofs.Tryd.prog E S (cs_lodgeref_SameFault N) :=
  .nil
theorem F_lodgeref_SameFault_ok (S : Ini) (N : Nat) : ∀ x y, (c_lodgeref_SameFault N).g x = some y → FCon Go.Proofs.Tryd.prog E S 41 ps_lodgeref_SameFault rs_lodgeref_SameFault x y := by
  intro x y h
  exact fun_specJ E_ok mixed (cs_lodgeref_SameFault_ok S N) (f := 41) (fi := ⟨b_lodgeref_SameFault, 24, Go.Proofs.Tryd.f41.results.toList⟩) (by kernel_rfl) (ls := []) (.nil) (js := []) (by kernel_rfl) (ps := ps_lodgeref_SameFault) (rs := rs_lodgeref_SameFault) (Eq.trans (b := F_lodgeref_SameFault N x.2.1 x.2.2.1) (by kernel_rfl) h)

/-! lodge/lodgesee.Same -/

abbrev ps_lodgesee_Same : List Ty := [.err, (.st (.pair (.int .i64) (.pair .bool (.int .i64))))]
abbrev rs_lodgesee_Same : List Slot := [.data .bool]
abbrev cs_lodgesee_Same (N : Nat) : List (CallSpec E) := [c_lodgesee_Fault N, c_lodgeref_SameFault N]
noncomputable abbrev b_lodgesee_Same : Code := (Go.Proofs.Tryd.f26.body).getD .skip

def F_lodgesee_Same (N : Nat) (e_0 : Er) (f_1 : (Int × (Bool × Int))) : Option (Unit × (Bool × Unit)) :=
  Option.bind (F_lodgesee_Fault N e_0) fun y0 =>
  Option.bind (F_lodgeref_SameFault N ((y0).2).1 f_1) fun y1 =>
  some ((), (y1).2)

abbrev c_lodgesee_Same (N : Nat) : CallSpec E := ⟨26, ps_lodgesee_Same, rs_lodgesee_Same, fun x => F_lodgesee_Same N x.2.1 x.2.2.1⟩

theorem cs_lodgesee_Same_ok (S : Ini) (N : Nat) : CallsOK Go.Proofs.Tryd.prog E S (cs_lodgesee_Same N) :=
  .cons (F_lodgesee_Fault_ok S N) (.cons (F_lodgeref_SameFault_ok S N) (.nil))
theorem F_lodgesee_Same_ok (S : Ini) (N : Nat) : ∀ x y, (c_lodgesee_Same N).g x = some y → FCon Go.Proofs.Tryd.prog E S 26 ps_lodgesee_Same rs_lodgesee_Same x y := by
  intro x y h
  exact fun_specJ E_ok mixed (cs_lodgesee_Same_ok S N) (f := 26) (fi := ⟨b_lodgesee_Same, 9, Go.Proofs.Tryd.f26.results.toList⟩) (by kernel_rfl) (ls := []) (.nil) (js := []) (by kernel_rfl) (ps := ps_lodgesee_Same) (rs := rs_lodgesee_Same) (Eq.trans (b := F_lodgesee_Same N x.2.1 x.2.2.1) (by kernel_rfl) h)

/-! lodge/lodgesee.Is -/

abbrev ps_lodgesee_Is : List Ty := [.err, (.int .i64)]
abbrev rs_lodgesee_Is : List Slot := [.data .bool]
abbrev cs_lodgesee_Is (N : Nat) : List (CallSpec E) := [c_lodgeref_Bare N, c_lodgesee_Same N]
noncomputable abbrev b_lodgesee_Is : Code := (Go.Proofs.Tryd.f12.body).getD .skip

def F_lodgesee_Is (N : Nat) (e_0 : Er) (code_1 : Int) : Option (Unit × (Bool × Unit)) :=
  Option.bind (F_lodgeref_Bare N code_1) fun y0 =>
  Option.bind (F_lodgesee_Same N e_0 ((y0).2).1) fun y1 =>
  some ((), (y1).2)

abbrev c_lodgesee_Is (N : Nat) : CallSpec E := ⟨12, ps_lodgesee_Is, rs_lodgesee_Is, fun x => F_lodgesee_Is N x.2.1 x.2.2.1⟩

theorem cs_lodgesee_Is_ok (S : Ini) (N : Nat) : CallsOK Go.Proofs.Tryd.prog E S (cs_lodgesee_Is N) :=
  .cons (F_lodgeref_Bare_ok S N) (.cons (F_lodgesee_Same_ok S N) (.nil))
theorem F_lodgesee_Is_ok (S : Ini) (N : Nat) : ∀ x y, (c_lodgesee_Is N).g x = some y → FCon Go.Proofs.Tryd.prog E S 12 ps_lodgesee_Is rs_lodgesee_Is x y := by
  intro x y h
  exact fun_specJ E_ok mixed (cs_lodgesee_Is_ok S N) (f := 12) (fi := ⟨b_lodgesee_Is, 9, Go.Proofs.Tryd.f12.results.toList⟩) (by kernel_rfl) (ls := []) (.nil) (js := []) (by kernel_rfl) (ps := ps_lodgesee_Is) (rs := rs_lodgesee_Is) (Eq.trans (b := F_lodgesee_Is N x.2.1 x.2.2.1) (by kernel_rfl) h)

/-! slices.Clone[[]lodge/arena.block,lodge/arena.block] -/

abbrev ps_slices_Clone_arena_block : List Ty := [(.sl (.st (.pair (.int .i64) (.int .i64))))]
abbrev rs_slices_Clone_arena_block : List Slot := [.sl (.st (.pair (.int .i64) (.int .i64)))]
abbrev cs_slices_Clone_arena_block (N : Nat) : List (CallSpec E) := []
noncomputable abbrev b_slices_Clone_arena_block : Code := (Go.Proofs.Tryd.f36.body).getD .skip

def F_slices_Clone_arena_block (N : Nat) (s_0 : List ((Int × Int))) : Option (Unit × (List ((Int × Int)) × Unit)) :=
  cond (decide ((((0 : Nat) + (List.length s_0)) * (16 + (1 : Nat))) ≤ Go.Eng.most))
    (
    cond (decide (((0 : Nat) + (List.length s_0)) = (List.length (([] : List (Int × Int)) ++ s_0))))
      (
      some ((), ((([] : List (Int × Int)) ++ s_0), ())))
      (
      none))
    (
    none)

abbrev c_slices_Clone_arena_block (N : Nat) : CallSpec E := ⟨36, ps_slices_Clone_arena_block, rs_slices_Clone_arena_block, fun x => F_slices_Clone_arena_block N x.2.1⟩

theorem cs_slices_Clone_arena_block_ok (S : Ini) (N : Nat) : CallsOK Go.Proofs.Tryd.prog E S (cs_slices_Clone_arena_block N) :=
  .nil
theorem F_slices_Clone_arena_block_ok (S : Ini) (N : Nat) : ∀ x y, (c_slices_Clone_arena_block N).g x = some y → FCon Go.Proofs.Tryd.prog E S 36 ps_slices_Clone_arena_block rs_slices_Clone_arena_block x y := by
  intro x y h
  exact nil_spec E_ok mixed (f := 36) (fi := ⟨b_slices_Clone_arena_block, 8, Go.Proofs.Tryd.f36.results.toList⟩) (by kernel_rfl) (by kernel_rfl) (t := (.st (.pair (.int .i64) (.int .i64)))) (T := x.1) (l := x.2.1) (rs := rs_slices_Clone_arena_block) (y := y) (Eq.trans (b := F_slices_Clone_arena_block N x.2.1) (by kernel_rfl) h) (fun hl => by
    have h' : F_slices_Clone_arena_block N x.2.1 = some y := h
    rw [hl] at h'
    exact (show funJKA E [] [] [] [] ⟨b_slices_Clone_arena_block, 8, Go.Proofs.Tryd.f36.results.toList⟩ [.v (.slice none 0 0)] (encTabs E.kinds [] x.1) rs_slices_Clone_arena_block = some (x.1, ([], ())) by kernel_rfl).trans ((show F_slices_Clone_arena_block N  [] = some (x.1, ([], ())) by kernel_rfl).symm.trans h'))


end Go.Proofs.YtnbpgehpjhifgaaDoor.Lx
