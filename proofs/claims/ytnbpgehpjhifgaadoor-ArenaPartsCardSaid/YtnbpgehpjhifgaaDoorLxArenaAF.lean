/-
  The functions of the seat's program, as plain functions.
-/
import Derived.Test.YtnbpgehpjhifgaaDoorLxArenaAFb
namespace Go.Proofs.YtnbpgehpjhifgaaDoor.Lx
open Go Go.Eng Go.Proofs
set_option maxRecDepth 100000

/-! lodge/lodgeref.SameBytes -/

abbrev ps_lodgeref_SameBytes : List Ty := [(.sl (.int .u8)), (.sl (.int .u8))]
abbrev rs_lodgeref_SameBytes : List Slot := [.data .bool]
abbrev cs_lodgeref_SameBytes (N : Nat) : List (CallSpec E) := []
noncomputable abbrev b_lodgeref_SameBytes : Code := (Go.Proofs.Tryd.f21.body).getD .skip

abbrev h_lodgeref_SameBytes_0 : List Slot := [.data (.sl (.int .u8)), .data (.sl (.int .u8)), .dead, .dead, .dead, .data (.int .i64), .dead, .dead, .dead, .dead, .dead, .dead, .dead, .dead, .dead, .dead, .dead, .dead, .dead, .dead, .dead, .dead, .dead, .dead, .dead, .dead, .dead, .dead, .dead]
abbrev e_lodgeref_SameBytes_0 : List (AX × List Slot) := [(AX.exit 0, [.dead, .dead, .dead, .dead, .dead, .dead, .dead, .dead, .dead, .dead, .dead, .dead, .dead, .dead, .dead, .dead, .dead, .dead, .dead, .dead, .dead, .dead, .dead, .dead, .dead, .dead, .dead, .dead, .dead]), (AX.ret, [.dead, .dead, .dead, .dead, .data .bool, .dead, .dead, .dead, .dead, .dead, .dead, .dead, .dead, .dead, .dead, .dead, .dead, .dead, .dead, .dead, .dead, .dead, .dead, .dead, .dead, .dead, .dead, .dead, .dead])]
def g_lodgeref_SameBytes_0 (N : Nat) : Nat → List Int → List Int → Int → Option (Sum (Unit × Unit) (Unit × (Bool × Unit)))
  | 0, _, _, _ => none
  | n + 1, a_0, b_1, i_5 =>
    cond (decide (i_5 < (Nat.cast (List.length a_0) : Int)))
      (
      cond (decide ((0 : Int) ≤ i_5))
        (
        cond (decide ((Int.toNat i_5) < (List.length a_0)))
          (
          cond (decide ((0 : Int) ≤ i_5))
            (
            cond (decide ((Int.toNat i_5) < (List.length b_1)))
              (
              cond (Bool.not (decide ((List.getD a_0 (Int.toNat i_5) (0 : Int)) = (List.getD b_1 (Int.toNat i_5) (0 : Int)))))
                (
                some (Sum.inr ((), (false, ()))))
                (
                (g_lodgeref_SameBytes_0 N n a_0 b_1 (wi64 (i_5 + (1 : Int))))))
              (
              none))
            (
            none))
          (
          none))
        (
        none))
      (
      some (Sum.inl ((), ())))

def F_lodgeref_SameBytes (N : Nat) (a_0 : List Int) (b_1 : List Int) : Option (Unit × (Bool × Unit)) :=
  cond (decide (@Ne Int (Nat.cast (List.length a_0) : Int) (Nat.cast (List.length b_1) : Int)))
    (
    some ((), (false, ())))
    (
    Option.bind (g_lodgeref_SameBytes_0 N N a_0 b_1 (0 : Int)) fun y0 =>
    Sum.elim (fun y1 =>
      some ((), (true, ())))
      (fun y2 =>
      some ((), (y2).2)) y0)

abbrev c_lodgeref_SameBytes (N : Nat) : CallSpec E := ⟨21, ps_lodgeref_SameBytes, rs_lodgeref_SameBytes, fun x => F_lodgeref_SameBytes N x.2.1 x.2.2.1⟩
abbrev l_lodgeref_SameBytes_0 (N : Nat) : LoopSpec E [] := ⟨0, h_lodgeref_SameBytes_0, e_lodgeref_SameBytes_0, fun x => g_lodgeref_SameBytes_0 N N x.2.1 x.2.2.1 x.2.2.2.1⟩

theorem cs_lodgeref_SameBytes_ok (S : Ini) (N : Nat) : CallsOK Go.Proofs.Tryd.prog E S (cs_lodgeref_SameBytes N) :=
  .nil
noncomputable abbrev b_lodgeref_SameBytes_0 : Code := (loopsOf b_lodgeref_SameBytes).getD 0 .skip
theorem g_lodgeref_SameBytes_0_ok (S : Ini) (N : Nat) : ∀ n x y, (fun (x : StV E [] h_lodgeref_SameBytes_0) => g_lodgeref_SameBytes_0 N n x.2.1 x.2.2.1 x.2.2.2.1) x = some y → LoopCon Go.Proofs.Tryd.prog E S b_lodgeref_SameBytes_0 (encSlots E [] h_lodgeref_SameBytes_0 x) (encEx E [] e_lodgeref_SameBytes_0 y).1 (encEx E [] e_lodgeref_SameBytes_0 y).2 :=
  loop_specJ E_ok mixed (E_ok.ks 21) (cs_lodgeref_SameBytes_ok S N) (all := loopsOf b_lodgeref_SameBytes) (ls := []) (.nil) (js := []) (i := 0) (by kernel_rfl) (inner_of (by kernel_rfl)) (head := h_lodgeref_SameBytes_0) (ex := e_lodgeref_SameBytes_0) (fun n (x : StV E [] h_lodgeref_SameBytes_0) => g_lodgeref_SameBytes_0 N n x.2.1 x.2.2.1 x.2.2.2.1) (fun _ => rfl) (fun n x => by kernel_rfl)
theorem F_lodgeref_SameBytes_ok (S : Ini) (N : Nat) : ∀ x y, (c_lodgeref_SameBytes N).g x = some y → FCon Go.Proofs.Tryd.prog E S 21 ps_lodgeref_SameBytes rs_lodgeref_SameBytes x y := by
  intro x y h
  exact fun_specJ E_ok mixed (cs_lodgeref_SameBytes_ok S N) (f := 21) (fi := ⟨b_lodgeref_SameBytes, 29, Go.Proofs.Tryd.f21.results.toList⟩) (by kernel_rfl) (ls := [l_lodgeref_SameBytes_0 N]) (.cons (by kernel_rfl) (g_lodgeref_SameBytes_0_ok S N N) (.nil)) (js := []) (by kernel_rfl) (ps := ps_lodgeref_SameBytes) (rs := rs_lodgeref_SameBytes) (Eq.trans (b := F_lodgeref_SameBytes N x.2.1 x.2.2.1) (by kernel_rfl) h)

end Go.Proofs.YtnbpgehpjhifgaaDoor.Lx
