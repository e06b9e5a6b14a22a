/-
  Texts of the proof, one behind the other.
-/
import Derived.Test.YtnbpgehpjhifgaaDoorLxPf
import Derived.Test.YtnbpgehpjhifgaaDoorProg
import Derived.KernelRfl
import Derived.WalkKit
import Derived.Deep.LoopGhost
import Derived.Deep.RegionLaw
import Derived.Deep.Draws
import Derived.Lib.Walk
import Derived.Shelf.RegionOpenPlain
import Derived.Sort.WalkB12
import Derived.Shelf.SlIter.AllValues
import Derived.RangeFuncWrites
import Derived.Shelf.SlicesE.Clone

/-
  The functions of the seat's program, as plain functions.
-/
namespace Go.Proofs.YtnbpgehpjhifgaaDoor.Lx
open Go Go.Eng Go.Proofs
set_option maxRecDepth 100000

/-! (*lodge/arena.Arena).Remove -/

abbrev ps_arena_Arena_Remove : List Ty := [(.hd 0), (.int .i64)]
abbrev rs_arena_Arena_Remove : List Slot := [.data .bool]
abbrev cs_arena_Arena_Remove (N : Nat) : List (CallSpec E) := [c_arena_Arena_find N, c_arena_Arena_Remove_1 N]
noncomputable abbrev b_arena_Arena_Remove : Code := ((Go.Proofs.Tryd.f16.body).getD .skip)

def F_arena_Arena_Remove (N : Nat) (T0 : List (List Int × (List (Option Nat) × Unit))) (T1 : List (Int × (Int × (Int × (List ((Int × Int)) × Unit))))) (a_0 : Option Nat) (id_1 : Int) : Option ((List (List Int × (List (Option Nat) × Unit)) × (List (Int × (Int × (Int × (List ((Int × Int)) × Unit)))) × Unit)) × (Bool × Unit)) :=
  Option.bind (F_arena_Arena_find N T0 T1 a_0 id_1) fun y0 =>
  cond (@Option.isNone Nat ((y0).2).1)
    (
    some ((y0).1, (false, ())))
    (
    cond (@Option.isSome Nat a_0)
      (
      cond (@Option.isSome Nat ((y0).2).1)
        (
        cond (@Option.isSome Nat ((y0).2).1)
          (
          cond (@Option.isSome Nat ((y0).2).1)
            (
            cond (decide ((0 : Int) ≤ (((List.getD (((y0).1).2).1 (@Option.getD Nat ((y0).2).1 (0 : Nat)) ((0 : Int), ((0 : Int), ((0 : Int), (([] : List (Int × Int)), ())))))).2).1))
              (
              cond (decide ((0 : Int) ≤ (wi64 ((((List.getD (((y0).1).2).1 (@Option.getD Nat ((y0).2).1 (0 : Nat)) ((0 : Int), ((0 : Int), ((0 : Int), (([] : List (Int × Int)), ())))))).2).1 + ((((List.getD (((y0).1).2).1 (@Option.getD Nat ((y0).2).1 (0 : Nat)) ((0 : Int), ((0 : Int), ((0 : Int), (([] : List (Int × Int)), ())))))).2).2).1))))
                (
                cond (decide ((Int.toNat (((List.getD (((y0).1).2).1 (@Option.getD Nat ((y0).2).1 (0 : Nat)) ((0 : Int), ((0 : Int), ((0 : Int), (([] : List (Int × Int)), ())))))).2).1) ≤ (Int.toNat (wi64 ((((List.getD (((y0).1).2).1 (@Option.getD Nat ((y0).2).1 (0 : Nat)) ((0 : Int), ((0 : Int), ((0 : Int), (([] : List (Int × Int)), ())))))).2).1 + ((((List.getD (((y0).1).2).1 (@Option.getD Nat ((y0).2).1 (0 : Nat)) ((0 : Int), ((0 : Int), ((0 : Int), (([] : List (Int × Int)), ())))))).2).2).1)))))
                  (
                  cond (decide ((Int.toNat (wi64 ((((List.getD (((y0).1).2).1 (@Option.getD Nat ((y0).2).1 (0 : Nat)) ((0 : Int), ((0 : Int), ((0 : Int), (([] : List (Int × Int)), ())))))).2).1 + ((((List.getD (((y0).1).2).1 (@Option.getD Nat ((y0).2).1 (0 : Nat)) ((0 : Int), ((0 : Int), ((0 : Int), (([] : List (Int × Int)), ())))))).2).2).1))) ≤ (List.length ((List.getD ((y0).1).1 (@Option.getD Nat a_0 (0 : Nat)) (([] : List Int), (([] : List (Option Nat)), ())))).1)))
                    (
                    cond (decide ((((0 : Nat) + (Int.toNat (((List.getD (((y0).1).2).1 (@Option.getD Nat ((y0).2).1 (0 : Nat)) ((0 : Int), ((0 : Int), ((0 : Int), (([] : List (Int × Int)), ())))))).2).1)) + ((Int.toNat (wi64 ((((List.getD (((y0).1).2).1 (@Option.getD Nat ((y0).2).1 (0 : Nat)) ((0 : Int), ((0 : Int), ((0 : Int), (([] : List (Int × Int)), ())))))).2).1 + ((((List.getD (((y0).1).2).1 (@Option.getD Nat ((y0).2).1 (0 : Nat)) ((0 : Int), ((0 : Int), ((0 : Int), (([] : List (Int × Int)), ())))))).2).2).1))) - (Int.toNat (((List.getD (((y0).1).2).1 (@Option.getD Nat ((y0).2).1 (0 : Nat)) ((0 : Int), ((0 : Int), ((0 : Int), (([] : List (Int × Int)), ())))))).2).1))) ≤ (List.length ((List.getD ((y0).1).1 (@Option.getD Nat a_0 (0 : Nat)) (([] : List Int), (([] : List (Option Nat)), ())))).1)))
                      (
                      cond (@Option.isSome Nat a_0)
                        (
                        cond (decide (((0 : Nat) + (List.length (((List.getD (List.set ((y0).1).1 (@Option.getD Nat a_0 (0 : Nat)) ((((List.take ((0 : Nat) + (Int.toNat (((List.getD (((y0).1).2).1 (@Option.getD Nat ((y0).2).1 (0 : Nat)) ((0 : Int), ((0 : Int), ((0 : Int), (([] : List (Int × Int)), ())))))).2).1)) ((List.getD ((y0).1).1 (@Option.getD Nat a_0 (0 : Nat)) (([] : List Int), (([] : List (Option Nat)), ())))).1) ++ (List.replicate ((Int.toNat (wi64 ((((List.getD (((y0).1).2).1 (@Option.getD Nat ((y0).2).1 (0 : Nat)) ((0 : Int), ((0 : Int), ((0 : Int), (([] : List (Int × Int)), ())))))).2).1 + ((((List.getD (((y0).1).2).1 (@Option.getD Nat ((y0).2).1 (0 : Nat)) ((0 : Int), ((0 : Int), ((0 : Int), (([] : List (Int × Int)), ())))))).2).2).1))) - (Int.toNat (((List.getD (((y0).1).2).1 (@Option.getD Nat ((y0).2).1 (0 : Nat)) ((0 : Int), ((0 : Int), ((0 : Int), (([] : List (Int × Int)), ())))))).2).1)) (0 : Int))) ++ (List.drop (((0 : Nat) + (Int.toNat (((List.getD (((y0).1).2).1 (@Option.getD Nat ((y0).2).1 (0 : Nat)) ((0 : Int), ((0 : Int), ((0 : Int), (([] : List (Int × Int)), ())))))).2).1)) + ((Int.toNat (wi64 ((((List.getD (((y0).1).2).1 (@Option.getD Nat ((y0).2).1 (0 : Nat)) ((0 : Int), ((0 : Int), ((0 : Int), (([] : List (Int × Int)), ())))))).2).1 + ((((List.getD (((y0).1).2).1 (@Option.getD Nat ((y0).2).1 (0 : Nat)) ((0 : Int), ((0 : Int), ((0 : Int), (([] : List (Int × Int)), ())))))).2).2).1))) - (Int.toNat (((List.getD (((y0).1).2).1 (@Option.getD Nat ((y0).2).1 (0 : Nat)) ((0 : Int), ((0 : Int), ((0 : Int), (([] : List (Int × Int)), ())))))).2).1))) ((List.getD ((y0).1).1 (@Option.getD Nat a_0 (0 : Nat)) (([] : List Int), (([] : List (Option Nat)), ())))).1)), ((List.getD ((y0).1).1 (@Option.getD Nat a_0 (0 : Nat)) (([] : List Int), (([] : List (Option Nat)), ())))).2)) (@Option.getD Nat a_0 (0 : Nat)) (([] : List Int), (([] : List (Option Nat)), ())))).2).1)) = (List.length (((List.getD (List.set ((y0).1).1 (@Option.getD Nat a_0 (0 : Nat)) ((((List.take ((0 : Nat) + (Int.toNat (((List.getD (((y0).1).2).1 (@Option.getD Nat ((y0).2).1 (0 : Nat)) ((0 : Int), ((0 : Int), ((0 : Int), (([] : List (Int × Int)), ())))))).2).1)) ((List.getD ((y0).1).1 (@Option.getD Nat a_0 (0 : Nat)) (([] : List Int), (([] : List (Option Nat)), ())))).1) ++ (List.replicate ((Int.toNat (wi64 ((((List.getD (((y0).1).2).1 (@Option.getD Nat ((y0).2).1 (0 : Nat)) ((0 : Int), ((0 : Int), ((0 : Int), (([] : List (Int × Int)), ())))))).2).1 + ((((List.getD (((y0).1).2).1 (@Option.getD Nat ((y0).2).1 (0 : Nat)) ((0 : Int), ((0 : Int), ((0 : Int), (([] : List (Int × Int)), ())))))).2).2).1))) - (Int.toNat (((List.getD (((y0).1).2).1 (@Option.getD Nat ((y0).2).1 (0 : Nat)) ((0 : Int), ((0 : Int), ((0 : Int), (([] : List (Int × Int)), ())))))).2).1)) (0 : Int))) ++ (List.drop (((0 : Nat) + (Int.toNat (((List.getD (((y0).1).2).1 (@Option.getD Nat ((y0).2).1 (0 : Nat)) ((0 : Int), ((0 : Int), ((0 : Int), (([] : List (Int × Int)), ())))))).2).1)) + ((Int.toNat (wi64 ((((List.getD (((y0).1).2).1 (@Option.getD Nat ((y0).2).1 (0 : Nat)) ((0 : Int), ((0 : Int), ((0 : Int), (([] : List (Int × Int)), ())))))).2).1 + ((((List.getD (((y0).1).2).1 (@Option.getD Nat ((y0).2).1 (0 : Nat)) ((0 : Int), ((0 : Int), ((0 : Int), (([] : List (Int × Int)), ())))))).2).2).1))) - (Int.toNat (((List.getD (((y0).1).2).1 (@Option.getD Nat ((y0).2).1 (0 : Nat)) ((0 : Int), ((0 : Int), ((0 : Int), (([] : List (Int × Int)), ())))))).2).1))) ((List.getD ((y0).1).1 (@Option.getD Nat a_0 (0 : Nat)) (([] : List Int), (([] : List (Option Nat)), ())))).1)), ((List.getD ((y0).1).1 (@Option.getD Nat a_0 (0 : Nat)) (([] : List Int), (([] : List (Option Nat)), ())))).2)) (@Option.getD Nat a_0 (0 : Nat)) (([] : List Int), (([] : List (Option Nat)), ())))).2).1)))
                          (
                          cond (decide ((0 : Nat) < (List.length (List.take (List.length (((List.getD (List.set ((y0).1).1 (@Option.getD Nat a_0 (0 : Nat)) ((((List.take ((0 : Nat) + (Int.toNat (((List.getD (((y0).1).2).1 (@Option.getD Nat ((y0).2).1 (0 : Nat)) ((0 : Int), ((0 : Int), ((0 : Int), (([] : List (Int × Int)), ())))))).2).1)) ((List.getD ((y0).1).1 (@Option.getD Nat a_0 (0 : Nat)) (([] : List Int), (([] : List (Option Nat)), ())))).1) ++ (List.replicate ((Int.toNat (wi64 ((((List.getD (((y0).1).2).1 (@Option.getD Nat ((y0).2).1 (0 : Nat)) ((0 : Int), ((0 : Int), ((0 : Int), (([] : List (Int × Int)), ())))))).2).1 + ((((List.getD (((y0).1).2).1 (@Option.getD Nat ((y0).2).1 (0 : Nat)) ((0 : Int), ((0 : Int), ((0 : Int), (([] : List (Int × Int)), ())))))).2).2).1))) - (Int.toNat (((List.getD (((y0).1).2).1 (@Option.getD Nat ((y0).2).1 (0 : Nat)) ((0 : Int), ((0 : Int), ((0 : Int), (([] : List (Int × Int)), ())))))).2).1)) (0 : Int))) ++ (List.drop (((0 : Nat) + (Int.toNat (((List.getD (((y0).1).2).1 (@Option.getD Nat ((y0).2).1 (0 : Nat)) ((0 : Int), ((0 : Int), ((0 : Int), (([] : List (Int × Int)), ())))))).2).1)) + ((Int.toNat (wi64 ((((List.getD (((y0).1).2).1 (@Option.getD Nat ((y0).2).1 (0 : Nat)) ((0 : Int), ((0 : Int), ((0 : Int), (([] : List (Int × Int)), ())))))).2).1 + ((((List.getD (((y0).1).2).1 (@Option.getD Nat ((y0).2).1 (0 : Nat)) ((0 : Int), ((0 : Int), ((0 : Int), (([] : List (Int × Int)), ())))))).2).2).1))) - (Int.toNat (((List.getD (((y0).1).2).1 (@Option.getD Nat ((y0).2).1 (0 : Nat)) ((0 : Int), ((0 : Int), ((0 : Int), (([] : List (Int × Int)), ())))))).2).1))) ((List.getD ((y0).1).1 (@Option.getD Nat a_0 (0 : Nat)) (([] : List Int), (([] : List (Option Nat)), ())))).1)), ((List.getD ((y0).1).1 (@Option.getD Nat a_0 (0 : Nat)) (([] : List Int), (([] : List (Option Nat)), ())))).2)) (@Option.getD Nat a_0 (0 : Nat)) (([] : List Int), (([] : List (Option Nat)), ())))).2).1) (((List.getD (List.set ((y0).1).1 (@Option.getD Nat a_0 (0 : Nat)) ((((List.take ((0 : Nat) + (Int.toNat (((List.getD (((y0).1).2).1 (@Option.getD Nat ((y0).2).1 (0 : Nat)) ((0 : Int), ((0 : Int), ((0 : Int), (([] : List (Int × Int)), ())))))).2).1)) ((List.getD ((y0).1).1 (@Option.getD Nat a_0 (0 : Nat)) (([] : List Int), (([] : List (Option Nat)), ())))).1) ++ (List.replicate ((Int.toNat (wi64 ((((List.getD (((y0).1).2).1 (@Option.getD Nat ((y0).2).1 (0 : Nat)) ((0 : Int), ((0 : Int), ((0 : Int), (([] : List (Int × Int)), ())))))).2).1 + ((((List.getD (((y0).1).2).1 (@Option.getD Nat ((y0).2).1 (0 : Nat)) ((0 : Int), ((0 : Int), ((0 : Int), (([] : List (Int × Int)), ())))))).2).2).1))) - (Int.toNat (((List.getD (((y0).1).2).1 (@Option.getD Nat ((y0).2).1 (0 : Nat)) ((0 : Int), ((0 : Int), ((0 : Int), (([] : List (Int × Int)), ())))))).2).1)) (0 : Int))) ++ (List.drop (((0 : Nat) + (Int.toNat (((List.getD (((y0).1).2).1 (@Option.getD Nat ((y0).2).1 (0 : Nat)) ((0 : Int), ((0 : Int), ((0 : Int), (([] : List (Int × Int)), ())))))).2).1)) + ((Int.toNat (wi64 ((((List.getD (((y0).1).2).1 (@Option.getD Nat ((y0).2).1 (0 : Nat)) ((0 : Int), ((0 : Int), ((0 : Int), (([] : List (Int × Int)), ())))))).2).1 + ((((List.getD (((y0).1).2).1 (@Option.getD Nat ((y0).2).1 (0 : Nat)) ((0 : Int), ((0 : Int), ((0 : Int), (([] : List (Int × Int)), ())))))).2).2).1))) - (Int.toNat (((List.getD (((y0).1).2).1 (@Option.getD Nat ((y0).2).1 (0 : Nat)) ((0 : Int), ((0 : Int), ((0 : Int), (([] : List (Int × Int)), ())))))).2).1))) ((List.getD ((y0).1).1 (@Option.getD Nat a_0 (0 : Nat)) (([] : List Int), (([] : List (Option Nat)), ())))).1)), ((List.getD ((y0).1).1 (@Option.getD Nat a_0 (0 : Nat)) (([] : List Int), (([] : List (Option Nat)), ())))).2)) (@Option.getD Nat a_0 (0 : Nat)) (([] : List Int), (([] : List (Option Nat)), ())))).2).1))))
                            (
                            cond (decide ((List.length (List.take (List.length (((List.getD (List.set ((y0).1).1 (@Option.getD Nat a_0 (0 : Nat)) ((((List.take ((0 : Nat) + (Int.toNat (((List.getD (((y0).1).2).1 (@Option.getD Nat ((y0).2).1 (0 : Nat)) ((0 : Int), ((0 : Int), ((0 : Int), (([] : List (Int × Int)), ())))))).2).1)) ((List.getD ((y0).1).1 (@Option.getD Nat a_0 (0 : Nat)) (([] : List Int), (([] : List (Option Nat)), ())))).1) ++ (List.replicate ((Int.toNat (wi64 ((((List.getD (((y0).1).2).1 (@Option.getD Nat ((y0).2).1 (0 : Nat)) ((0 : Int), ((0 : Int), ((0 : Int), (([] : List (Int × Int)), ())))))).2).1 + ((((List.getD (((y0).1).2).1 (@Option.getD Nat ((y0).2).1 (0 : Nat)) ((0 : Int), ((0 : Int), ((0 : Int), (([] : List (Int × Int)), ())))))).2).2).1))) - (Int.toNat (((List.getD (((y0).1).2).1 (@Option.getD Nat ((y0).2).1 (0 : Nat)) ((0 : Int), ((0 : Int), ((0 : Int), (([] : List (Int × Int)), ())))))).2).1)) (0 : Int))) ++ (List.drop (((0 : Nat) + (Int.toNat (((List.getD (((y0).1).2).1 (@Option.getD Nat ((y0).2).1 (0 : Nat)) ((0 : Int), ((0 : Int), ((0 : Int), (([] : List (Int × Int)), ())))))).2).1)) + ((Int.toNat (wi64 ((((List.getD (((y0).1).2).1 (@Option.getD Nat ((y0).2).1 (0 : Nat)) ((0 : Int), ((0 : Int), ((0 : Int), (([] : List (Int × Int)), ())))))).2).1 + ((((List.getD (((y0).1).2).1 (@Option.getD Nat ((y0).2).1 (0 : Nat)) ((0 : Int), ((0 : Int), ((0 : Int), (([] : List (Int × Int)), ())))))).2).2).1))) - (Int.toNat (((List.getD (((y0).1).2).1 (@Option.getD Nat ((y0).2).1 (0 : Nat)) ((0 : Int), ((0 : Int), ((0 : Int), (([] : List (Int × Int)), ())))))).2).1))) ((List.getD ((y0).1).1 (@Option.getD Nat a_0 (0 : Nat)) (([] : List Int), (([] : List (Option Nat)), ())))).1)), ((List.getD ((y0).1).1 (@Option.getD Nat a_0 (0 : Nat)) (([] : List Int), (([] : List (Option Nat)), ())))).2)) (@Option.getD Nat a_0 (0 : Nat)) (([] : List Int), (([] : List (Option Nat)), ())))).2).1) (((List.getD (List.set ((y0).1).1 (@Option.getD Nat a_0 (0 : Nat)) ((((List.take ((0 : Nat) + (Int.toNat (((List.getD (((y0).1).2).1 (@Option.getD Nat ((y0).2).1 (0 : Nat)) ((0 : Int), ((0 : Int), ((0 : Int), (([] : List (Int × Int)), ())))))).2).1)) ((List.getD ((y0).1).1 (@Option.getD Nat a_0 (0 : Nat)) (([] : List Int), (([] : List (Option Nat)), ())))).1) ++ (List.replicate ((Int.toNat (wi64 ((((List.getD (((y0).1).2).1 (@Option.getD Nat ((y0).2).1 (0 : Nat)) ((0 : Int), ((0 : Int), ((0 : Int), (([] : List (Int × Int)), ())))))).2).1 + ((((List.getD (((y0).1).2).1 (@Option.getD Nat ((y0).2).1 (0 : Nat)) ((0 : Int), ((0 : Int), ((0 : Int), (([] : List (Int × Int)), ())))))).2).2).1))) - (Int.toNat (((List.getD (((y0).1).2).1 (@Option.getD Nat ((y0).2).1 (0 : Nat)) ((0 : Int), ((0 : Int), ((0 : Int), (([] : List (Int × Int)), ())))))).2).1)) (0 : Int))) ++ (List.drop (((0 : Nat) + (Int.toNat (((List.getD (((y0).1).2).1 (@Option.getD Nat ((y0).2).1 (0 : Nat)) ((0 : Int), ((0 : Int), ((0 : Int), (([] : List (Int × Int)), ())))))).2).1)) + ((Int.toNat (wi64 ((((List.getD (((y0).1).2).1 (@Option.getD Nat ((y0).2).1 (0 : Nat)) ((0 : Int), ((0 : Int), ((0 : Int), (([] : List (Int × Int)), ())))))).2).1 + ((((List.getD (((y0).1).2).1 (@Option.getD Nat ((y0).2).1 (0 : Nat)) ((0 : Int), ((0 : Int), ((0 : Int), (([] : List (Int × Int)), ())))))).2).2).1))) - (Int.toNat (((List.getD (((y0).1).2).1 (@Option.getD Nat ((y0).2).1 (0 : Nat)) ((0 : Int), ((0 : Int), ((0 : Int), (([] : List (Int × Int)), ())))))).2).1))) ((List.getD ((y0).1).1 (@Option.getD Nat a_0 (0 : Nat)) (([] : List Int), (([] : List (Option Nat)), ())))).1)), ((List.getD ((y0).1).1 (@Option.getD Nat a_0 (0 : Nat)) (([] : List Int), (([] : List (Option Nat)), ())))).2)) (@Option.getD Nat a_0 (0 : Nat)) (([] : List Int), (([] : List (Option Nat)), ())))).2).1)) ≤ Go.Eng.most))
                              (
                              cond (@Option.isSome Nat a_0)
                                (
                                cond (decide (((0 : Nat) + (List.length (@List.filter (Option Nat) (fun (y : (Option Nat)) => (Bool.not (decide (y = ((y0).2).1)))) (List.take (List.length (((List.getD (List.set ((y0).1).1 (@Option.getD Nat a_0 (0 : Nat)) ((((List.take ((0 : Nat) + (Int.toNat (((List.getD (((y0).1).2).1 (@Option.getD Nat ((y0).2).1 (0 : Nat)) ((0 : Int), ((0 : Int), ((0 : Int), (([] : List (Int × Int)), ())))))).2).1)) ((List.getD ((y0).1).1 (@Option.getD Nat a_0 (0 : Nat)) (([] : List Int), (([] : List (Option Nat)), ())))).1) ++ (List.replicate ((Int.toNat (wi64 ((((List.getD (((y0).1).2).1 (@Option.getD Nat ((y0).2).1 (0 : Nat)) ((0 : Int), ((0 : Int), ((0 : Int), (([] : List (Int × Int)), ())))))).2).1 + ((((List.getD (((y0).1).2).1 (@Option.getD Nat ((y0).2).1 (0 : Nat)) ((0 : Int), ((0 : Int), ((0 : Int), (([] : List (Int × Int)), ())))))).2).2).1))) - (Int.toNat (((List.getD (((y0).1).2).1 (@Option.getD Nat ((y0).2).1 (0 : Nat)) ((0 : Int), ((0 : Int), ((0 : Int), (([] : List (Int × Int)), ())))))).2).1)) (0 : Int))) ++ (List.drop (((0 : Nat) + (Int.toNat (((List.getD (((y0).1).2).1 (@Option.getD Nat ((y0).2).1 (0 : Nat)) ((0 : Int), ((0 : Int), ((0 : Int), (([] : List (Int × Int)), ())))))).2).1)) + ((Int.toNat (wi64 ((((List.getD (((y0).1).2).1 (@Option.getD Nat ((y0).2).1 (0 : Nat)) ((0 : Int), ((0 : Int), ((0 : Int), (([] : List (Int × Int)), ())))))).2).1 + ((((List.getD (((y0).1).2).1 (@Option.getD Nat ((y0).2).1 (0 : Nat)) ((0 : Int), ((0 : Int), ((0 : Int), (([] : List (Int × Int)), ())))))).2).2).1))) - (Int.toNat (((List.getD (((y0).1).2).1 (@Option.getD Nat ((y0).2).1 (0 : Nat)) ((0 : Int), ((0 : Int), ((0 : Int), (([] : List (Int × Int)), ())))))).2).1))) ((List.getD ((y0).1).1 (@Option.getD Nat a_0 (0 : Nat)) (([] : List Int), (([] : List (Option Nat)), ())))).1)), ((List.getD ((y0).1).1 (@Option.getD Nat a_0 (0 : Nat)) (([] : List Int), (([] : List (Option Nat)), ())))).2)) (@Option.getD Nat a_0 (0 : Nat)) (([] : List Int), (([] : List (Option Nat)), ())))).2).1) (((List.getD (List.set ((y0).1).1 (@Option.getD Nat a_0 (0 : Nat)) ((((List.take ((0 : Nat) + (Int.toNat (((List.getD (((y0).1).2).1 (@Option.getD Nat ((y0).2).1 (0 : Nat)) ((0 : Int), ((0 : Int), ((0 : Int), (([] : List (Int × Int)), ())))))).2).1)) ((List.getD ((y0).1).1 (@Option.getD Nat a_0 (0 : Nat)) (([] : List Int), (([] : List (Option Nat)), ())))).1) ++ (List.replicate ((Int.toNat (wi64 ((((List.getD (((y0).1).2).1 (@Option.getD Nat ((y0).2).1 (0 : Nat)) ((0 : Int), ((0 : Int), ((0 : Int), (([] : List (Int × Int)), ())))))).2).1 + ((((List.getD (((y0).1).2).1 (@Option.getD Nat ((y0).2).1 (0 : Nat)) ((0 : Int), ((0 : Int), ((0 : Int), (([] : List (Int × Int)), ())))))).2).2).1))) - (Int.toNat (((List.getD (((y0).1).2).1 (@Option.getD Nat ((y0).2).1 (0 : Nat)) ((0 : Int), ((0 : Int), ((0 : Int), (([] : List (Int × Int)), ())))))).2).1)) (0 : Int))) ++ (List.drop (((0 : Nat) + (Int.toNat (((List.getD (((y0).1).2).1 (@Option.getD Nat ((y0).2).1 (0 : Nat)) ((0 : Int), ((0 : Int), ((0 : Int), (([] : List (Int × Int)), ())))))).2).1)) + ((Int.toNat (wi64 ((((List.getD (((y0).1).2).1 (@Option.getD Nat ((y0).2).1 (0 : Nat)) ((0 : Int), ((0 : Int), ((0 : Int), (([] : List (Int × Int)), ())))))).2).1 + ((((List.getD (((y0).1).2).1 (@Option.getD Nat ((y0).2).1 (0 : Nat)) ((0 : Int), ((0 : Int), ((0 : Int), (([] : List (Int × Int)), ())))))).2).2).1))) - (Int.toNat (((List.getD (((y0).1).2).1 (@Option.getD Nat ((y0).2).1 (0 : Nat)) ((0 : Int), ((0 : Int), ((0 : Int), (([] : List (Int × Int)), ())))))).2).1))) ((List.getD ((y0).1).1 (@Option.getD Nat a_0 (0 : Nat)) (([] : List Int), (([] : List (Option Nat)), ())))).1)), ((List.getD ((y0).1).1 (@Option.getD Nat a_0 (0 : Nat)) (([] : List Int), (([] : List (Option Nat)), ())))).2)) (@Option.getD Nat a_0 (0 : Nat)) (([] : List Int), (([] : List (Option Nat)), ())))).2).1)))) ≤ (List.length (@List.filter (Option Nat) (fun (y : (Option Nat)) => (Bool.not (decide (y = ((y0).2).1)))) (List.take (List.length (((List.getD (List.set ((y0).1).1 (@Option.getD Nat a_0 (0 : Nat)) ((((List.take ((0 : Nat) + (Int.toNat (((List.getD (((y0).1).2).1 (@Option.getD Nat ((y0).2).1 (0 : Nat)) ((0 : Int), ((0 : Int), ((0 : Int), (([] : List (Int × Int)), ())))))).2).1)) ((List.getD ((y0).1).1 (@Option.getD Nat a_0 (0 : Nat)) (([] : List Int), (([] : List (Option Nat)), ())))).1) ++ (List.replicate ((Int.toNat (wi64 ((((List.getD (((y0).1).2).1 (@Option.getD Nat ((y0).2).1 (0 : Nat)) ((0 : Int), ((0 : Int), ((0 : Int), (([] : List (Int × Int)), ())))))).2).1 + ((((List.getD (((y0).1).2).1 (@Option.getD Nat ((y0).2).1 (0 : Nat)) ((0 : Int), ((0 : Int), ((0 : Int), (([] : List (Int × Int)), ())))))).2).2).1))) - (Int.toNat (((List.getD (((y0).1).2).1 (@Option.getD Nat ((y0).2).1 (0 : Nat)) ((0 : Int), ((0 : Int), ((0 : Int), (([] : List (Int × Int)), ())))))).2).1)) (0 : Int))) ++ (List.drop (((0 : Nat) + (Int.toNat (((List.getD (((y0).1).2).1 (@Option.getD Nat ((y0).2).1 (0 : Nat)) ((0 : Int), ((0 : Int), ((0 : Int), (([] : List (Int × Int)), ())))))).2).1)) + ((Int.toNat (wi64 ((((List.getD (((y0).1).2).1 (@Option.getD Nat ((y0).2).1 (0 : Nat)) ((0 : Int), ((0 : Int), ((0 : Int), (([] : List (Int × Int)), ())))))).2).1 + ((((List.getD (((y0).1).2).1 (@Option.getD Nat ((y0).2).1 (0 : Nat)) ((0 : Int), ((0 : Int), ((0 : Int), (([] : List (Int × Int)), ())))))).2).2).1))) - (Int.toNat (((List.getD (((y0).1).2).1 (@Option.getD Nat ((y0).2).1 (0 : Nat)) ((0 : Int), ((0 : Int), ((0 : Int), (([] : List (Int × Int)), ())))))).2).1))) ((List.getD ((y0).1).1 (@Option.getD Nat a_0 (0 : Nat)) (([] : List Int), (([] : List (Option Nat)), ())))).1)), ((List.getD ((y0).1).1 (@Option.getD Nat a_0 (0 : Nat)) (([] : List Int), (([] : List (Option Nat)), ())))).2)) (@Option.getD Nat a_0 (0 : Nat)) (([] : List Int), (([] : List (Option Nat)), ())))).2).1) (((List.getD (List.set ((y0).1).1 (@Option.getD Nat a_0 (0 : Nat)) ((((List.take ((0 : Nat) + (Int.toNat (((List.getD (((y0).1).2).1 (@Option.getD Nat ((y0).2).1 (0 : Nat)) ((0 : Int), ((0 : Int), ((0 : Int), (([] : List (Int × Int)), ())))))).2).1)) ((List.getD ((y0).1).1 (@Option.getD Nat a_0 (0 : Nat)) (([] : List Int), (([] : List (Option Nat)), ())))).1) ++ (List.replicate ((Int.toNat (wi64 ((((List.getD (((y0).1).2).1 (@Option.getD Nat ((y0).2).1 (0 : Nat)) ((0 : Int), ((0 : Int), ((0 : Int), (([] : List (Int × Int)), ())))))).2).1 + ((((List.getD (((y0).1).2).1 (@Option.getD Nat ((y0).2).1 (0 : Nat)) ((0 : Int), ((0 : Int), ((0 : Int), (([] : List (Int × Int)), ())))))).2).2).1))) - (Int.toNat (((List.getD (((y0).1).2).1 (@Option.getD Nat ((y0).2).1 (0 : Nat)) ((0 : Int), ((0 : Int), ((0 : Int), (([] : List (Int × Int)), ())))))).2).1)) (0 : Int))) ++ (List.drop (((0 : Nat) + (Int.toNat (((List.getD (((y0).1).2).1 (@Option.getD Nat ((y0).2).1 (0 : Nat)) ((0 : Int), ((0 : Int), ((0 : Int), (([] : List (Int × Int)), ())))))).2).1)) + ((Int.toNat (wi64 ((((List.getD (((y0).1).2).1 (@Option.getD Nat ((y0).2).1 (0 : Nat)) ((0 : Int), ((0 : Int), ((0 : Int), (([] : List (Int × Int)), ())))))).2).1 + ((((List.getD (((y0).1).2).1 (@Option.getD Nat ((y0).2).1 (0 : Nat)) ((0 : Int), ((0 : Int), ((0 : Int), (([] : List (Int × Int)), ())))))).2).2).1))) - (Int.toNat (((List.getD (((y0).1).2).1 (@Option.getD Nat ((y0).2).1 (0 : Nat)) ((0 : Int), ((0 : Int), ((0 : Int), (([] : List (Int × Int)), ())))))).2).1))) ((List.getD ((y0).1).1 (@Option.getD Nat a_0 (0 : Nat)) (([] : List Int), (([] : List (Option Nat)), ())))).1)), ((List.getD ((y0).1).1 (@Option.getD Nat a_0 (0 : Nat)) (([] : List Int), (([] : List (Option Nat)), ())))).2)) (@Option.getD Nat a_0 (0 : Nat)) (([] : List Int), (([] : List (Option Nat)), ())))).2).1)))))
                                  (
                                  cond (decide ((@Option.getD Nat a_0 (0 : Nat)) = (@Option.getD Nat a_0 (0 : Nat))))
                                    (
                                    some (((List.set (List.set ((y0).1).1 (@Option.getD Nat a_0 (0 : Nat)) ((((List.take ((0 : Nat) + (Int.toNat (((List.getD (((y0).1).2).1 (@Option.getD Nat ((y0).2).1 (0 : Nat)) ((0 : Int), ((0 : Int), ((0 : Int), (([] : List (Int × Int)), ())))))).2).1)) ((List.getD ((y0).1).1 (@Option.getD Nat a_0 (0 : Nat)) (([] : List Int), (([] : List (Option Nat)), ())))).1) ++ (List.replicate ((Int.toNat (wi64 ((((List.getD (((y0).1).2).1 (@Option.getD Nat ((y0).2).1 (0 : Nat)) ((0 : Int), ((0 : Int), ((0 : Int), (([] : List (Int × Int)), ())))))).2).1 + ((((List.getD (((y0).1).2).1 (@Option.getD Nat ((y0).2).1 (0 : Nat)) ((0 : Int), ((0 : Int), ((0 : Int), (([] : List (Int × Int)), ())))))).2).2).1))) - (Int.toNat (((List.getD (((y0).1).2).1 (@Option.getD Nat ((y0).2).1 (0 : Nat)) ((0 : Int), ((0 : Int), ((0 : Int), (([] : List (Int × Int)), ())))))).2).1)) (0 : Int))) ++ (List.drop (((0 : Nat) + (Int.toNat (((List.getD (((y0).1).2).1 (@Option.getD Nat ((y0).2).1 (0 : Nat)) ((0 : Int), ((0 : Int), ((0 : Int), (([] : List (Int × Int)), ())))))).2).1)) + ((Int.toNat (wi64 ((((List.getD (((y0).1).2).1 (@Option.getD Nat ((y0).2).1 (0 : Nat)) ((0 : Int), ((0 : Int), ((0 : Int), (([] : List (Int × Int)), ())))))).2).1 + ((((List.getD (((y0).1).2).1 (@Option.getD Nat ((y0).2).1 (0 : Nat)) ((0 : Int), ((0 : Int), ((0 : Int), (([] : List (Int × Int)), ())))))).2).2).1))) - (Int.toNat (((List.getD (((y0).1).2).1 (@Option.getD Nat ((y0).2).1 (0 : Nat)) ((0 : Int), ((0 : Int), ((0 : Int), (([] : List (Int × Int)), ())))))).2).1))) ((List.getD ((y0).1).1 (@Option.getD Nat a_0 (0 : Nat)) (([] : List Int), (([] : List (Option Nat)), ())))).1)), ((List.getD ((y0).1).1 (@Option.getD Nat a_0 (0 : Nat)) (([] : List Int), (([] : List (Option Nat)), ())))).2)) (@Option.getD Nat a_0 (0 : Nat)) (((List.getD (List.set ((y0).1).1 (@Option.getD Nat a_0 (0 : Nat)) ((((List.take ((0 : Nat) + (Int.toNat (((List.getD (((y0).1).2).1 (@Option.getD Nat ((y0).2).1 (0 : Nat)) ((0 : Int), ((0 : Int), ((0 : Int), (([] : List (Int × Int)), ())))))).2).1)) ((List.getD ((y0).1).1 (@Option.getD Nat a_0 (0 : Nat)) (([] : List Int), (([] : List (Option Nat)), ())))).1) ++ (List.replicate ((Int.toNat (wi64 ((((List.getD (((y0).1).2).1 (@Option.getD Nat ((y0).2).1 (0 : Nat)) ((0 : Int), ((0 : Int), ((0 : Int), (([] : List (Int × Int)), ())))))).2).1 + ((((List.getD (((y0).1).2).1 (@Option.getD Nat ((y0).2).1 (0 : Nat)) ((0 : Int), ((0 : Int), ((0 : Int), (([] : List (Int × Int)), ())))))).2).2).1))) - (Int.toNat (((List.getD (((y0).1).2).1 (@Option.getD Nat ((y0).2).1 (0 : Nat)) ((0 : Int), ((0 : Int), ((0 : Int), (([] : List (Int × Int)), ())))))).2).1)) (0 : Int))) ++ (List.drop (((0 : Nat) + (Int.toNat (((List.getD (((y0).1).2).1 (@Option.getD Nat ((y0).2).1 (0 : Nat)) ((0 : Int), ((0 : Int), ((0 : Int), (([] : List (Int × Int)), ())))))).2).1)) + ((Int.toNat (wi64 ((((List.getD (((y0).1).2).1 (@Option.getD Nat ((y0).2).1 (0 : Nat)) ((0 : Int), ((0 : Int), ((0 : Int), (([] : List (Int × Int)), ())))))).2).1 + ((((List.getD (((y0).1).2).1 (@Option.getD Nat ((y0).2).1 (0 : Nat)) ((0 : Int), ((0 : Int), ((0 : Int), (([] : List (Int × Int)), ())))))).2).2).1))) - (Int.toNat (((List.getD (((y0).1).2).1 (@Option.getD Nat ((y0).2).1 (0 : Nat)) ((0 : Int), ((0 : Int), ((0 : Int), (([] : List (Int × Int)), ())))))).2).1))) ((List.getD ((y0).1).1 (@Option.getD Nat a_0 (0 : Nat)) (([] : List Int), (([] : List (Option Nat)), ())))).1)), ((List.getD ((y0).1).1 (@Option.getD Nat a_0 (0 : Nat)) (([] : List Int), (([] : List (Option Nat)), ())))).2)) (@Option.getD Nat a_0 (0 : Nat)) (([] : List Int), (([] : List (Option Nat)), ())))).1, ((List.take (List.length (@List.filter (Option Nat) (fun (y : (Option Nat)) => (Bool.not (decide (y = ((y0).2).1)))) (List.take (List.length (((List.getD (List.set ((y0).1).1 (@Option.getD Nat a_0 (0 : Nat)) ((((List.take ((0 : Nat) + (Int.toNat (((List.getD (((y0).1).2).1 (@Option.getD Nat ((y0).2).1 (0 : Nat)) ((0 : Int), ((0 : Int), ((0 : Int), (([] : List (Int × Int)), ())))))).2).1)) ((List.getD ((y0).1).1 (@Option.getD Nat a_0 (0 : Nat)) (([] : List Int), (([] : List (Option Nat)), ())))).1) ++ (List.replicate ((Int.toNat (wi64 ((((List.getD (((y0).1).2).1 (@Option.getD Nat ((y0).2).1 (0 : Nat)) ((0 : Int), ((0 : Int), ((0 : Int), (([] : List (Int × Int)), ())))))).2).1 + ((((List.getD (((y0).1).2).1 (@Option.getD Nat ((y0).2).1 (0 : Nat)) ((0 : Int), ((0 : Int), ((0 : Int), (([] : List (Int × Int)), ())))))).2).2).1))) - (Int.toNat (((List.getD (((y0).1).2).1 (@Option.getD Nat ((y0).2).1 (0 : Nat)) ((0 : Int), ((0 : Int), ((0 : Int), (([] : List (Int × Int)), ())))))).2).1)) (0 : Int))) ++ (List.drop (((0 : Nat) + (Int.toNat (((List.getD (((y0).1).2).1 (@Option.getD Nat ((y0).2).1 (0 : Nat)) ((0 : Int), ((0 : Int), ((0 : Int), (([] : List (Int × Int)), ())))))).2).1)) + ((Int.toNat (wi64 ((((List.getD (((y0).1).2).1 (@Option.getD Nat ((y0).2).1 (0 : Nat)) ((0 : Int), ((0 : Int), ((0 : Int), (([] : List (Int × Int)), ())))))).2).1 + ((((List.getD (((y0).1).2).1 (@Option.getD Nat ((y0).2).1 (0 : Nat)) ((0 : Int), ((0 : Int), ((0 : Int), (([] : List (Int × Int)), ())))))).2).2).1))) - (Int.toNat (((List.getD (((y0).1).2).1 (@Option.getD Nat ((y0).2).1 (0 : Nat)) ((0 : Int), ((0 : Int), ((0 : Int), (([] : List (Int × Int)), ())))))).2).1))) ((List.getD ((y0).1).1 (@Option.getD Nat a_0 (0 : Nat)) (([] : List Int), (([] : List (Option Nat)), ())))).1)), ((List.getD ((y0).1).1 (@Option.getD Nat a_0 (0 : Nat)) (([] : List Int), (([] : List (Option Nat)), ())))).2)) (@Option.getD Nat a_0 (0 : Nat)) (([] : List Int), (([] : List (Option Nat)), ())))).2).1) (((List.getD (List.set ((y0).1).1 (@Option.getD Nat a_0 (0 : Nat)) ((((List.take ((0 : Nat) + (Int.toNat (((List.getD (((y0).1).2).1 (@Option.getD Nat ((y0).2).1 (0 : Nat)) ((0 : Int), ((0 : Int), ((0 : Int), (([] : List (Int × Int)), ())))))).2).1)) ((List.getD ((y0).1).1 (@Option.getD Nat a_0 (0 : Nat)) (([] : List Int), (([] : List (Option Nat)), ())))).1) ++ (List.replicate ((Int.toNat (wi64 ((((List.getD (((y0).1).2).1 (@Option.getD Nat ((y0).2).1 (0 : Nat)) ((0 : Int), ((0 : Int), ((0 : Int), (([] : List (Int × Int)), ())))))).2).1 + ((((List.getD (((y0).1).2).1 (@Option.getD Nat ((y0).2).1 (0 : Nat)) ((0 : Int), ((0 : Int), ((0 : Int), (([] : List (Int × Int)), ())))))).2).2).1))) - (Int.toNat (((List.getD (((y0).1).2).1 (@Option.getD Nat ((y0).2).1 (0 : Nat)) ((0 : Int), ((0 : Int), ((0 : Int), (([] : List (Int × Int)), ())))))).2).1)) (0 : Int))) ++ (List.drop (((0 : Nat) + (Int.toNat (((List.getD (((y0).1).2).1 (@Option.getD Nat ((y0).2).1 (0 : Nat)) ((0 : Int), ((0 : Int), ((0 : Int), (([] : List (Int × Int)), ())))))).2).1)) + ((Int.toNat (wi64 ((((List.getD (((y0).1).2).1 (@Option.getD Nat ((y0).2).1 (0 : Nat)) ((0 : Int), ((0 : Int), ((0 : Int), (([] : List (Int × Int)), ())))))).2).1 + ((((List.getD (((y0).1).2).1 (@Option.getD Nat ((y0).2).1 (0 : Nat)) ((0 : Int), ((0 : Int), ((0 : Int), (([] : List (Int × Int)), ())))))).2).2).1))) - (Int.toNat (((List.getD (((y0).1).2).1 (@Option.getD Nat ((y0).2).1 (0 : Nat)) ((0 : Int), ((0 : Int), ((0 : Int), (([] : List (Int × Int)), ())))))).2).1))) ((List.getD ((y0).1).1 (@Option.getD Nat a_0 (0 : Nat)) (([] : List Int), (([] : List (Option Nat)), ())))).1)), ((List.getD ((y0).1).1 (@Option.getD Nat a_0 (0 : Nat)) (([] : List Int), (([] : List (Option Nat)), ())))).2)) (@Option.getD Nat a_0 (0 : Nat)) (([] : List Int), (([] : List (Option Nat)), ())))).2).1))) (@List.filter (Option Nat) (fun (y : (Option Nat)) => (Bool.not (decide (y = ((y0).2).1)))) (List.take (List.length (((List.getD (List.set ((y0).1).1 (@Option.getD Nat a_0 (0 : Nat)) ((((List.take ((0 : Nat) + (Int.toNat (((List.getD (((y0).1).2).1 (@Option.getD Nat ((y0).2).1 (0 : Nat)) ((0 : Int), ((0 : Int), ((0 : Int), (([] : List (Int × Int)), ())))))).2).1)) ((List.getD ((y0).1).1 (@Option.getD Nat a_0 (0 : Nat)) (([] : List Int), (([] : List (Option Nat)), ())))).1) ++ (List.replicate ((Int.toNat (wi64 ((((List.getD (((y0).1).2).1 (@Option.getD Nat ((y0).2).1 (0 : Nat)) ((0 : Int), ((0 : Int), ((0 : Int), (([] : List (Int × Int)), ())))))).2).1 + ((((List.getD (((y0).1).2).1 (@Option.getD Nat ((y0).2).1 (0 : Nat)) ((0 : Int), ((0 : Int), ((0 : Int), (([] : List (Int × Int)), ())))))).2).2).1))) - (Int.toNat (((List.getD (((y0).1).2).1 (@Option.getD Nat ((y0).2).1 (0 : Nat)) ((0 : Int), ((0 : Int), ((0 : Int), (([] : List (Int × Int)), ())))))).2).1)) (0 : Int))) ++ (List.drop (((0 : Nat) + (Int.toNat (((List.getD (((y0).1).2).1 (@Option.getD Nat ((y0).2).1 (0 : Nat)) ((0 : Int), ((0 : Int), ((0 : Int), (([] : List (Int × Int)), ())))))).2).1)) + ((Int.toNat (wi64 ((((List.getD (((y0).1).2).1 (@Option.getD Nat ((y0).2).1 (0 : Nat)) ((0 : Int), ((0 : Int), ((0 : Int), (([] : List (Int × Int)), ())))))).2).1 + ((((List.getD (((y0).1).2).1 (@Option.getD Nat ((y0).2).1 (0 : Nat)) ((0 : Int), ((0 : Int), ((0 : Int), (([] : List (Int × Int)), ())))))).2).2).1))) - (Int.toNat (((List.getD (((y0).1).2).1 (@Option.getD Nat ((y0).2).1 (0 : Nat)) ((0 : Int), ((0 : Int), ((0 : Int), (([] : List (Int × Int)), ())))))).2).1))) ((List.getD ((y0).1).1 (@Option.getD Nat a_0 (0 : Nat)) (([] : List Int), (([] : List (Option Nat)), ())))).1)), ((List.getD ((y0).1).1 (@Option.getD Nat a_0 (0 : Nat)) (([] : List Int), (([] : List (Option Nat)), ())))).2)) (@Option.getD Nat a_0 (0 : Nat)) (([] : List Int), (([] : List (Option Nat)), ())))).2).1) (((List.getD (List.set ((y0).1).1 (@Option.getD Nat a_0 (0 : Nat)) ((((List.take ((0 : Nat) + (Int.toNat (((List.getD (((y0).1).2).1 (@Option.getD Nat ((y0).2).1 (0 : Nat)) ((0 : Int), ((0 : Int), ((0 : Int), (([] : List (Int × Int)), ())))))).2).1)) ((List.getD ((y0).1).1 (@Option.getD Nat a_0 (0 : Nat)) (([] : List Int), (([] : List (Option Nat)), ())))).1) ++ (List.replicate ((Int.toNat (wi64 ((((List.getD (((y0).1).2).1 (@Option.getD Nat ((y0).2).1 (0 : Nat)) ((0 : Int), ((0 : Int), ((0 : Int), (([] : List (Int × Int)), ())))))).2).1 + ((((List.getD (((y0).1).2).1 (@Option.getD Nat ((y0).2).1 (0 : Nat)) ((0 : Int), ((0 : Int), ((0 : Int), (([] : List (Int × Int)), ())))))).2).2).1))) - (Int.toNat (((List.getD (((y0).1).2).1 (@Option.getD Nat ((y0).2).1 (0 : Nat)) ((0 : Int), ((0 : Int), ((0 : Int), (([] : List (Int × Int)), ())))))).2).1)) (0 : Int))) ++ (List.drop (((0 : Nat) + (Int.toNat (((List.getD (((y0).1).2).1 (@Option.getD Nat ((y0).2).1 (0 : Nat)) ((0 : Int), ((0 : Int), ((0 : Int), (([] : List (Int × Int)), ())))))).2).1)) + ((Int.toNat (wi64 ((((List.getD (((y0).1).2).1 (@Option.getD Nat ((y0).2).1 (0 : Nat)) ((0 : Int), ((0 : Int), ((0 : Int), (([] : List (Int × Int)), ())))))).2).1 + ((((List.getD (((y0).1).2).1 (@Option.getD Nat ((y0).2).1 (0 : Nat)) ((0 : Int), ((0 : Int), ((0 : Int), (([] : List (Int × Int)), ())))))).2).2).1))) - (Int.toNat (((List.getD (((y0).1).2).1 (@Option.getD Nat ((y0).2).1 (0 : Nat)) ((0 : Int), ((0 : Int), ((0 : Int), (([] : List (Int × Int)), ())))))).2).1))) ((List.getD ((y0).1).1 (@Option.getD Nat a_0 (0 : Nat)) (([] : List Int), (([] : List (Option Nat)), ())))).1)), ((List.getD ((y0).1).1 (@Option.getD Nat a_0 (0 : Nat)) (([] : List Int), (([] : List (Option Nat)), ())))).2)) (@Option.getD Nat a_0 (0 : Nat)) (([] : List Int), (([] : List (Option Nat)), ())))).2).1))), (((List.getD (List.set ((y0).1).1 (@Option.getD Nat a_0 (0 : Nat)) ((((List.take ((0 : Nat) + (Int.toNat (((List.getD (((y0).1).2).1 (@Option.getD Nat ((y0).2).1 (0 : Nat)) ((0 : Int), ((0 : Int), ((0 : Int), (([] : List (Int × Int)), ())))))).2).1)) ((List.getD ((y0).1).1 (@Option.getD Nat a_0 (0 : Nat)) (([] : List Int), (([] : List (Option Nat)), ())))).1) ++ (List.replicate ((Int.toNat (wi64 ((((List.getD (((y0).1).2).1 (@Option.getD Nat ((y0).2).1 (0 : Nat)) ((0 : Int), ((0 : Int), ((0 : Int), (([] : List (Int × Int)), ())))))).2).1 + ((((List.getD (((y0).1).2).1 (@Option.getD Nat ((y0).2).1 (0 : Nat)) ((0 : Int), ((0 : Int), ((0 : Int), (([] : List (Int × Int)), ())))))).2).2).1))) - (Int.toNat (((List.getD (((y0).1).2).1 (@Option.getD Nat ((y0).2).1 (0 : Nat)) ((0 : Int), ((0 : Int), ((0 : Int), (([] : List (Int × Int)), ())))))).2).1)) (0 : Int))) ++ (List.drop (((0 : Nat) + (Int.toNat (((List.getD (((y0).1).2).1 (@Option.getD Nat ((y0).2).1 (0 : Nat)) ((0 : Int), ((0 : Int), ((0 : Int), (([] : List (Int × Int)), ())))))).2).1)) + ((Int.toNat (wi64 ((((List.getD (((y0).1).2).1 (@Option.getD Nat ((y0).2).1 (0 : Nat)) ((0 : Int), ((0 : Int), ((0 : Int), (([] : List (Int × Int)), ())))))).2).1 + ((((List.getD (((y0).1).2).1 (@Option.getD Nat ((y0).2).1 (0 : Nat)) ((0 : Int), ((0 : Int), ((0 : Int), (([] : List (Int × Int)), ())))))).2).2).1))) - (Int.toNat (((List.getD (((y0).1).2).1 (@Option.getD Nat ((y0).2).1 (0 : Nat)) ((0 : Int), ((0 : Int), ((0 : Int), (([] : List (Int × Int)), ())))))).2).1))) ((List.getD ((y0).1).1 (@Option.getD Nat a_0 (0 : Nat)) (([] : List Int), (([] : List (Option Nat)), ())))).1)), ((List.getD ((y0).1).1 (@Option.getD Nat a_0 (0 : Nat)) (([] : List Int), (([] : List (Option Nat)), ())))).2)) (@Option.getD Nat a_0 (0 : Nat)) (([] : List Int), (([] : List (Option Nat)), ())))).2).2))), ((y0).1).2), (true, ())))
                                    (
                                    none))
                                  (
                                  none))
                                (
                                none))
                              (
                              none))
                            (
                            none))
                          (
                          none))
                        (
                        none))
                      (
                      none))
                    (
                    none))
                  (
                  none))
                (
                none))
              (
              none))
            (
            none))
          (
          none))
        (
        none))
      (
      none))

abbrev c_arena_Arena_Remove (N : Nat) : CallSpec E := ⟨16, ps_arena_Arena_Remove, rs_arena_Arena_Remove, fun x => F_arena_Arena_Remove N x.1.1 x.1.2.1 x.2.1 x.2.2.1⟩

theorem cs_arena_Arena_Remove_ok (S : Ini) (N : Nat) : CallsOK Go.Proofs.Tryd.prog E S (cs_arena_Arena_Remove N) :=
  .cons (F_arena_Arena_find_ok S N) (.cons (F_arena_Arena_Remove_1_ok S N) (.nil))
theorem F_arena_Arena_Remove_ok (S : Ini) (N : Nat) : ∀ x y, (c_arena_Arena_Remove N).g x = some y → FCon Go.Proofs.Tryd.prog E S 16 ps_arena_Arena_Remove rs_arena_Arena_Remove x y := by
  intro x y h
  exact fun_specJ E_ok mixed (cs_arena_Arena_Remove_ok S N) (f := 16) (fi := ⟨b_arena_Arena_Remove, 41, Go.Proofs.Tryd.f16.results.toList⟩) (by kernel_rfl) (ls := []) (.nil) (js := []) (by kernel_rfl) (ps := ps_arena_Arena_Remove) (rs := rs_arena_Arena_Remove) (Eq.trans (b := F_arena_Arena_Remove N x.1.1 x.1.2.1 x.2.1 x.2.2.1) (by kernel_rfl) h)

/-! slices.Clone[[]byte,byte] -/

abbrev ps_slices_Clone_byte : List Ty := [(.sl (.int .u8))]
abbrev rs_slices_Clone_byte : List Slot := [.sl (.int .u8)]
abbrev cs_slices_Clone_byte (N : Nat) : List (CallSpec E) := []
noncomputable abbrev b_slices_Clone_byte : Code := ((Go.Proofs.Tryd.f34.body).getD .skip)

def F_slices_Clone_byte (N : Nat) (s_0 : List Int) : Option (Unit × (List Int × Unit)) :=
  cond (decide ((((0 : Nat) + (List.length s_0)) * (1 + (1 : Nat))) ≤ Go.Eng.most))
    (
    cond (decide (((0 : Nat) + (List.length s_0)) = (List.length (([] : List Int) ++ s_0))))
      (
      some ((), ((([] : List Int) ++ s_0), ())))
      (
      none))
    (
    none)

abbrev c_slices_Clone_byte (N : Nat) : CallSpec E := ⟨34, ps_slices_Clone_byte, rs_slices_Clone_byte, fun x => F_slices_Clone_byte N x.2.1⟩

theorem cs_slices_Clone_byte_ok (S : Ini) (N : Nat) : CallsOK Go.Proofs.Tryd.prog E S (cs_slices_Clone_byte N) :=
  .nil
theorem F_slices_Clone_byte_ok (S : Ini) (N : Nat) : ∀ x y, (c_slices_Clone_byte N).g x = some y → FCon Go.Proofs.Tryd.prog E S 34 ps_slices_Clone_byte rs_slices_Clone_byte x y := by
  intro x y h
  exact nil_spec E_ok mixed (f := 34) (fi := ⟨b_slices_Clone_byte, 8, Go.Proofs.Tryd.f34.results.toList⟩) (by kernel_rfl) (by kernel_rfl) (t := (.int .u8)) (T := x.1) (l := x.2.1) (rs := rs_slices_Clone_byte) (y := y) (Eq.trans (b := F_slices_Clone_byte N x.2.1) (by kernel_rfl) h) (fun hl => by
    have h' : F_slices_Clone_byte N x.2.1 = some y := h
    rw [hl] at h'
    exact (show funJKA E [] [] [] [] ⟨b_slices_Clone_byte, 8, Go.Proofs.Tryd.f34.results.toList⟩ [.v (.slice none 0 0)] (encTabs E.kinds [] x.1) rs_slices_Clone_byte = some (x.1, ([], ())) by kernel_rfl).trans ((show F_slices_Clone_byte N  [] = some (x.1, ([], ())) by kernel_rfl).symm.trans h'))

/-! (*lodge/arena.Arena).Read -/

abbrev ps_arena_Arena_Read : List Ty := [(.hd 0), (.int .i64), (.int .i64), (.int .i64)]
abbrev rs_arena_Arena_Read : List Slot := [.sl (.int .u8), .data .bool]
abbrev cs_arena_Arena_Read (N : Nat) : List (CallSpec E) := [c_arena_Arena_within N, c_slices_Clone_byte N]
noncomputable abbrev b_arena_Arena_Read : Code := ((Go.Proofs.Tryd.f18.body).getD .skip)

def F_arena_Arena_Read (N : Nat) (T0 : List (List Int × (List (Option Nat) × Unit))) (T1 : List (Int × (Int × (Int × (List ((Int × Int)) × Unit))))) (a_0 : Option Nat) (id_1 : Int) (off_2 : Int) (n_3 : Int) : Option ((List (List Int × (List (Option Nat) × Unit)) × (List (Int × (Int × (Int × (List ((Int × Int)) × Unit)))) × Unit)) × (List Int × (Bool × Unit))) :=
  Option.bind (F_arena_Arena_within N T0 T1 a_0 id_1 off_2 n_3) fun y0 =>
  cond (decide ((((((y0).2).1).2).1 + ((((y0).2).1).2).2) ≤ (List.length ((List.getD ((y0).1).1 (((y0).2).1).1 (([] : List Int), (([] : List (Option Nat)), ())))).1)))
    (
    Option.bind (F_slices_Clone_byte N (List.take ((((y0).2).1).2).2 (List.drop ((((y0).2).1).2).1 ((List.getD ((y0).1).1 (((y0).2).1).1 (([] : List Int), (([] : List (Option Nat)), ())))).1))) fun y1 =>
    cond (decide ((List.length ((y1).2).1) = (List.length ((y1).2).1)))
      (
      some ((y0).1, (((y1).2).1, ((y0).2).2)))
      (
      none))
    (
    none)

abbrev c_arena_Arena_Read (N : Nat) : CallSpec E := ⟨18, ps_arena_Arena_Read, rs_arena_Arena_Read, fun x => F_arena_Arena_Read N x.1.1 x.1.2.1 x.2.1 x.2.2.1 x.2.2.2.1 x.2.2.2.2.1⟩

theorem cs_arena_Arena_Read_ok (S : Ini) (N : Nat) : CallsOK Go.Proofs.Tryd.prog E S (cs_arena_Arena_Read N) :=
  .cons (F_arena_Arena_within_ok S N) (.cons (F_slices_Clone_byte_ok S N) (.nil))
theorem F_arena_Arena_Read_ok (S : Ini) (N : Nat) : ∀ x y, (c_arena_Arena_Read N).g x = some y → FCon Go.Proofs.Tryd.prog E S 18 ps_arena_Arena_Read rs_arena_Arena_Read x y := by
  intro x y h
  exact fun_specJ E_ok mixed (cs_arena_Arena_Read_ok S N) (f := 18) (fi := ⟨b_arena_Arena_Read, 23, Go.Proofs.Tryd.f18.results.toList⟩) (by kernel_rfl) (ls := []) (.nil) (js := []) (by kernel_rfl) (ps := ps_arena_Arena_Read) (rs := rs_arena_Arena_Read) (Eq.trans (b := F_arena_Arena_Read N x.1.1 x.1.2.1 x.2.1 x.2.2.1 x.2.2.2.1 x.2.2.2.2.1) (by kernel_rfl) h)

/-! (*lodge/arena.Arena).Raw -/

abbrev ps_arena_Arena_Raw : List Ty := [(.hd 0), (.int .i64), (.int .i64)]
abbrev rs_arena_Arena_Raw : List Slot := [.sl (.int .u8)]
abbrev cs_arena_Arena_Raw (N : Nat) : List (CallSpec E) := [c_slices_Clone_byte N]
noncomputable abbrev b_arena_Arena_Raw : Code := ((Go.Proofs.Tryd.f19.body).getD .skip)

def F_arena_Arena_Raw (N : Nat) (T0 : List (List Int × (List (Option Nat) × Unit))) (T1 : List (Int × (Int × (Int × (List ((Int × Int)) × Unit))))) (a_0 : Option Nat) (off_1 : Int) (n_2 : Int) : Option ((List (List Int × (List (Option Nat) × Unit)) × (List (Int × (Int × (Int × (List ((Int × Int)) × Unit)))) × Unit)) × (List Int × Unit)) :=
  cond (decide (off_1 < (0 : Int)))
    (
    cond (decide ((0 : Int) < n_2))
      (
      cond (decide ((wi64 (n_2 + off_1)) < (1 : Int)))
        (
        some ((T0, (T1, ())), (([] : List Int), ())))
        (
        cond (@Option.isSome Nat a_0)
          (
          cond (decide ((Nat.cast (List.length ((List.getD T0 (@Option.getD Nat a_0 (0 : Nat)) (([] : List Int), (([] : List (Option Nat)), ())))).1) : Int) ≤ (0 : Int)))
            (
            some ((T0, (T1, ())), (([] : List Int), ())))
            (
            cond (@Option.isSome Nat a_0)
              (
              cond (@Option.isSome Nat a_0)
                (
                cond (decide ((0 : Int) ≤ (wi64 ((0 : Int) + (Go.Eng.imin (wi64 (n_2 + off_1)) (wi64 ((Nat.cast (List.length ((List.getD T0 (@Option.getD Nat a_0 (0 : Nat)) (([] : List Int), (([] : List (Option Nat)), ())))).1) : Int) - (0 : Int))))))))
                  (
                  cond (decide ((Int.toNat (wi64 ((0 : Int) + (Go.Eng.imin (wi64 (n_2 + off_1)) (wi64 ((Nat.cast (List.length ((List.getD T0 (@Option.getD Nat a_0 (0 : Nat)) (([] : List Int), (([] : List (Option Nat)), ())))).1) : Int) - (0 : Int))))))) ≤ (List.length ((List.getD T0 (@Option.getD Nat a_0 (0 : Nat)) (([] : List Int), (([] : List (Option Nat)), ())))).1)))
                    (
                    cond (decide ((((0 : Nat) + 0) + ((Int.toNat (wi64 ((0 : Int) + (Go.Eng.imin (wi64 (n_2 + off_1)) (wi64 ((Nat.cast (List.length ((List.getD T0 (@Option.getD Nat a_0 (0 : Nat)) (([] : List Int), (([] : List (Option Nat)), ())))).1) : Int) - (0 : Int))))))) - 0)) ≤ (List.length ((List.getD T0 (@Option.getD Nat a_0 (0 : Nat)) (([] : List Int), (([] : List (Option Nat)), ())))).1)))
                      (
                      Option.bind (F_slices_Clone_byte N (List.take ((Int.toNat (wi64 ((0 : Int) + (Go.Eng.imin (wi64 (n_2 + off_1)) (wi64 ((Nat.cast (List.length ((List.getD T0 (@Option.getD Nat a_0 (0 : Nat)) (([] : List Int), (([] : List (Option Nat)), ())))).1) : Int) - (0 : Int))))))) - 0) (List.drop ((0 : Nat) + 0) ((List.getD T0 (@Option.getD Nat a_0 (0 : Nat)) (([] : List Int), (([] : List (Option Nat)), ())))).1))) fun y0 =>
                      cond (decide ((List.length ((y0).2).1) = (List.length ((y0).2).1)))
                        (
                        some ((T0, (T1, ())), (y0).2))
                        (
                        none))
                      (
                      none))
                    (
                    none))
                  (
                  none))
                (
                none))
              (
              none)))
          (
          none)))
      (
      cond (decide (off_1 < (0 : Int)))
        (
        some ((T0, (T1, ())), (([] : List Int), ())))
        (
        cond (decide (n_2 < (1 : Int)))
          (
          some ((T0, (T1, ())), (([] : List Int), ())))
          (
          cond (@Option.isSome Nat a_0)
            (
            cond (decide ((Nat.cast (List.length ((List.getD T0 (@Option.getD Nat a_0 (0 : Nat)) (([] : List Int), (([] : List (Option Nat)), ())))).1) : Int) ≤ off_1))
              (
              some ((T0, (T1, ())), (([] : List Int), ())))
              (
              cond (@Option.isSome Nat a_0)
                (
                cond (@Option.isSome Nat a_0)
                  (
                  cond (decide ((0 : Int) ≤ off_1))
                    (
                    cond (decide ((0 : Int) ≤ (wi64 (off_1 + (Go.Eng.imin n_2 (wi64 ((Nat.cast (List.length ((List.getD T0 (@Option.getD Nat a_0 (0 : Nat)) (([] : List Int), (([] : List (Option Nat)), ())))).1) : Int) - off_1)))))))
                      (
                      cond (decide ((Int.toNat off_1) ≤ (Int.toNat (wi64 (off_1 + (Go.Eng.imin n_2 (wi64 ((Nat.cast (List.length ((List.getD T0 (@Option.getD Nat a_0 (0 : Nat)) (([] : List Int), (([] : List (Option Nat)), ())))).1) : Int) - off_1))))))))
                        (
                        cond (decide ((Int.toNat (wi64 (off_1 + (Go.Eng.imin n_2 (wi64 ((Nat.cast (List.length ((List.getD T0 (@Option.getD Nat a_0 (0 : Nat)) (([] : List Int), (([] : List (Option Nat)), ())))).1) : Int) - off_1)))))) ≤ (List.length ((List.getD T0 (@Option.getD Nat a_0 (0 : Nat)) (([] : List Int), (([] : List (Option Nat)), ())))).1)))
                          (
                          cond (decide ((((0 : Nat) + (Int.toNat off_1)) + ((Int.toNat (wi64 (off_1 + (Go.Eng.imin n_2 (wi64 ((Nat.cast (List.length ((List.getD T0 (@Option.getD Nat a_0 (0 : Nat)) (([] : List Int), (([] : List (Option Nat)), ())))).1) : Int) - off_1)))))) - (Int.toNat off_1))) ≤ (List.length ((List.getD T0 (@Option.getD Nat a_0 (0 : Nat)) (([] : List Int), (([] : List (Option Nat)), ())))).1)))
                            (
                            Option.bind (F_slices_Clone_byte N (List.take ((Int.toNat (wi64 (off_1 + (Go.Eng.imin n_2 (wi64 ((Nat.cast (List.length ((List.getD T0 (@Option.getD Nat a_0 (0 : Nat)) (([] : List Int), (([] : List (Option Nat)), ())))).1) : Int) - off_1)))))) - (Int.toNat off_1)) (List.drop ((0 : Nat) + (Int.toNat off_1)) ((List.getD T0 (@Option.getD Nat a_0 (0 : Nat)) (([] : List Int), (([] : List (Option Nat)), ())))).1))) fun y1 =>
                            cond (decide ((List.length ((y1).2).1) = (List.length ((y1).2).1)))
                              (
                              some ((T0, (T1, ())), (y1).2))
                              (
                              none))
                            (
                            none))
                          (
                          none))
                        (
                        none))
                      (
                      none))
                    (
                    none))
                  (
                  none))
                (
                none)))
            (
            none)))))
    (
    cond (decide (off_1 < (0 : Int)))
      (
      some ((T0, (T1, ())), (([] : List Int), ())))
      (
      cond (decide (n_2 < (1 : Int)))
        (
        some ((T0, (T1, ())), (([] : List Int), ())))
        (
        cond (@Option.isSome Nat a_0)
          (
          cond (decide ((Nat.cast (List.length ((List.getD T0 (@Option.getD Nat a_0 (0 : Nat)) (([] : List Int), (([] : List (Option Nat)), ())))).1) : Int) ≤ off_1))
            (
            some ((T0, (T1, ())), (([] : List Int), ())))
            (
            cond (@Option.isSome Nat a_0)
              (
              cond (@Option.isSome Nat a_0)
                (
                cond (decide ((0 : Int) ≤ off_1))
                  (
                  cond (decide ((0 : Int) ≤ (wi64 (off_1 + (Go.Eng.imin n_2 (wi64 ((Nat.cast (List.length ((List.getD T0 (@Option.getD Nat a_0 (0 : Nat)) (([] : List Int), (([] : List (Option Nat)), ())))).1) : Int) - off_1)))))))
                    (
                    cond (decide ((Int.toNat off_1) ≤ (Int.toNat (wi64 (off_1 + (Go.Eng.imin n_2 (wi64 ((Nat.cast (List.length ((List.getD T0 (@Option.getD Nat a_0 (0 : Nat)) (([] : List Int), (([] : List (Option Nat)), ())))).1) : Int) - off_1))))))))
                      (
                      cond (decide ((Int.toNat (wi64 (off_1 + (Go.Eng.imin n_2 (wi64 ((Nat.cast (List.length ((List.getD T0 (@Option.getD Nat a_0 (0 : Nat)) (([] : List Int), (([] : List (Option Nat)), ())))).1) : Int) - off_1)))))) ≤ (List.length ((List.getD T0 (@Option.getD Nat a_0 (0 : Nat)) (([] : List Int), (([] : List (Option Nat)), ())))).1)))
                        (
                        cond (decide ((((0 : Nat) + (Int.toNat off_1)) + ((Int.toNat (wi64 (off_1 + (Go.Eng.imin n_2 (wi64 ((Nat.cast (List.length ((List.getD T0 (@Option.getD Nat a_0 (0 : Nat)) (([] : List Int), (([] : List (Option Nat)), ())))).1) : Int) - off_1)))))) - (Int.toNat off_1))) ≤ (List.length ((List.getD T0 (@Option.getD Nat a_0 (0 : Nat)) (([] : List Int), (([] : List (Option Nat)), ())))).1)))
                          (
                          Option.bind (F_slices_Clone_byte N (List.take ((Int.toNat (wi64 (off_1 + (Go.Eng.imin n_2 (wi64 ((Nat.cast (List.length ((List.getD T0 (@Option.getD Nat a_0 (0 : Nat)) (([] : List Int), (([] : List (Option Nat)), ())))).1) : Int) - off_1)))))) - (Int.toNat off_1)) (List.drop ((0 : Nat) + (Int.toNat off_1)) ((List.getD T0 (@Option.getD Nat a_0 (0 : Nat)) (([] : List Int), (([] : List (Option Nat)), ())))).1))) fun y2 =>
                          cond (decide ((List.length ((y2).2).1) = (List.length ((y2).2).1)))
                            (
                            some ((T0, (T1, ())), (y2).2))
                            (
                            none))
                          (
                          none))
                        (
                        none))
                      (
                      none))
                    (
                    none))
                  (
                  none))
                (
                none))
              (
              none)))
          (
          none))))

abbrev c_arena_Arena_Raw (N : Nat) : CallSpec E := ⟨19, ps_arena_Arena_Raw, rs_arena_Arena_Raw, fun x => F_arena_Arena_Raw N x.1.1 x.1.2.1 x.2.1 x.2.2.1 x.2.2.2.1⟩

theorem cs_arena_Arena_Raw_ok (S : Ini) (N : Nat) : CallsOK Go.Proofs.Tryd.prog E S (cs_arena_Arena_Raw N) :=
  .cons (F_slices_Clone_byte_ok S N) (.nil)
theorem F_arena_Arena_Raw_ok (S : Ini) (N : Nat) : ∀ x y, (c_arena_Arena_Raw N).g x = some y → FCon Go.Proofs.Tryd.prog E S 19 ps_arena_Arena_Raw rs_arena_Arena_Raw x y := by
  intro x y h
  exact fun_specJ E_ok mixed (cs_arena_Arena_Raw_ok S N) (f := 19) (fi := ⟨b_arena_Arena_Raw, 49, Go.Proofs.Tryd.f19.results.toList⟩) (by kernel_rfl) (ls := []) (.nil) (js := []) (by kernel_rfl) (ps := ps_arena_Arena_Raw) (rs := rs_arena_Arena_Raw) (Eq.trans (b := F_arena_Arena_Raw N x.1.1 x.1.2.1 x.2.1 x.2.2.1 x.2.2.2.1) (by kernel_rfl) h)

/-! lodge/lodgeref.SameBytes -/

abbrev ps_lodgeref_SameBytes : List Ty := [(.sl (.int .u8)), (.sl (.int .u8))]
abbrev rs_lodgeref_SameBytes : List Slot := [.data .bool]
abbrev cs_lodgeref_SameBytes (N : Nat) : List (CallSpec E) := []
noncomputable abbrev b_lodgeref_SameBytes : Code := ((Go.Proofs.Tryd.f21.body).getD .skip)

abbrev h_lodgeref_SameBytes_0 : List Slot := [.data (.sl (.int .u8)), .data (.sl (.int .u8)), .dead, .dead, .dead, .data (.int .i64), .dead, .dead, .dead, .dead, .dead, .dead, .dead, .dead, .dead, .dead, .dead, .dead, .dead, .dead, .dead, .dead, .dead, .dead, .dead, .dead, .dead, .dead, .dead]
abbrev e_lodgeref_SameBytes_0 : List (AX × List Slot) := [(AX.exit 0, [.dead, .dead, .dead, .dead, .dead, .dead, .dead, .dead, .dead, .dead, .dead, .dead, .dead, .dead, .dead, .dead, .dead, .dead, .dead, .dead, .dead, .dead, .dead, .dead, .dead, .dead, .dead, .dead, .dead]), (AX.ret, [.dead, .dead, .dead, .dead, .data .bool, .dead, .dead, .dead, .dead, .dead, .dead, .dead, .dead, .dead, .dead, .dead, .dead, .dead, .dead, .dead, .dead, .dead, .dead, .dead, .dead, .dead, .dead, .dead, .dead])]
def g_lodgeref_SameBytes_0 (N : Nat) : Nat → List Int → List Int → Int → Option (Sum (Unit × Unit) (Unit × (Bool × Unit)))
  | 0, _, _, _ => none
  | n + 1, a_0, b_1, i_5 =>
    cond (decide (i_5 < (Nat.cast (List.length a_0) : Int)))
      (
      cond (decide ((0 : Int) ≤ i_5))
        (
        cond (decide ((Int.toNat i_5) < (List.length a_0)))
          (
          cond (decide ((0 : Int) ≤ i_5))
            (
            cond (decide ((Int.toNat i_5) < (List.length b_1)))
              (
              cond (Bool.not (decide ((List.getD a_0 (Int.toNat i_5) (0 : Int)) = (List.getD b_1 (Int.toNat i_5) (0 : Int)))))
                (
                some (Sum.inr ((), (false, ()))))
                (
                (g_lodgeref_SameBytes_0 N n a_0 b_1 (wi64 (i_5 + (1 : Int))))))
              (
              none))
            (
            none))
          (
          none))
        (
        none))
      (
      some (Sum.inl ((), ())))

def F_lodgeref_SameBytes (N : Nat) (a_0 : List Int) (b_1 : List Int) : Option (Unit × (Bool × Unit)) :=
  cond (decide (@Ne Int (Nat.cast (List.length a_0) : Int) (Nat.cast (List.length b_1) : Int)))
    (
    some ((), (false, ())))
    (
    Option.bind (g_lodgeref_SameBytes_0 N N a_0 b_1 (0 : Int)) fun y0 =>
    Sum.elim (fun y1 =>
      some ((), (true, ())))
      (fun y2 =>
      some ((), (y2).2)) y0)

abbrev c_lodgeref_SameBytes (N : Nat) : CallSpec E := ⟨21, ps_lodgeref_SameBytes, rs_lodgeref_SameBytes, fun x => F_lodgeref_SameBytes N x.2.1 x.2.2.1⟩
abbrev l_lodgeref_SameBytes_0 (N : Nat) : LoopSpec E [] := ⟨0, h_lodgeref_SameBytes_0, e_lodgeref_SameBytes_0, fun x => g_lodgeref_SameBytes_0 N N x.2.1 x.2.2.1 x.2.2.2.1⟩

theorem cs_lodgeref_SameBytes_ok (S : Ini) (N : Nat) : CallsOK Go.Proofs.Tryd.prog E S (cs_lodgeref_SameBytes N) :=
  .nil
noncomputable abbrev b_lodgeref_SameBytes_0 : Code := (loopsOf b_lodgeref_SameBytes).getD 0 .skip
theorem g_lodgeref_SameBytes_0_ok (S : Ini) (N : Nat) : ∀ n x y, (fun (x : StV E [] h_lodgeref_SameBytes_0) => g_lodgeref_SameBytes_0 N n x.2.1 x.2.2.1 x.2.2.2.1) x = some y → LoopCon Go.Proofs.Tryd.prog E S b_lodgeref_SameBytes_0 (encSlots E [] h_lodgeref_SameBytes_0 x) (encEx E [] e_lodgeref_SameBytes_0 y).1 (encEx E [] e_lodgeref_SameBytes_0 y).2 :=
  loop_specJ E_ok mixed (E_ok.ks 21) (cs_lodgeref_SameBytes_ok S N) (all := loopsOf b_lodgeref_SameBytes) (ls := []) (.nil) (js := []) (i := 0) (by kernel_rfl) (inner_of (by kernel_rfl)) (head := h_lodgeref_SameBytes_0) (ex := e_lodgeref_SameBytes_0) (fun n (x : StV E [] h_lodgeref_SameBytes_0) => g_lodgeref_SameBytes_0 N n x.2.1 x.2.2.1 x.2.2.2.1) (fun _ => rfl) (fun n x => by kernel_rfl)
theorem F_lodgeref_SameBytes_ok (S : Ini) (N : Nat) : ∀ x y, (c_lodgeref_SameBytes N).g x = some y → FCon Go.Proofs.Tryd.prog E S 21 ps_lodgeref_SameBytes rs_lodgeref_SameBytes x y := by
  intro x y h
  exact fun_specJ E_ok mixed (cs_lodgeref_SameBytes_ok S N) (f := 21) (fi := ⟨b_lodgeref_SameBytes, 29, Go.Proofs.Tryd.f21.results.toList⟩) (by kernel_rfl) (ls := [l_lodgeref_SameBytes_0 N]) (.cons (by kernel_rfl) (g_lodgeref_SameBytes_0_ok S N N) (.nil)) (js := []) (by kernel_rfl) (ps := ps_lodgeref_SameBytes) (rs := rs_lodgeref_SameBytes) (Eq.trans (b := F_lodgeref_SameBytes N x.2.1 x.2.2.1) (by kernel_rfl) h)

/-! lodge/lodgelaw13.ArenaScrubs -/

abbrev ps_lodgelaw13_ArenaScrubs : List Ty := [(.int .i64), (.int .i64), (.sl (.int .u8))]
abbrev rs_lodgelaw13_ArenaScrubs : List Slot := [.data .bool]
abbrev cs_lodgelaw13_ArenaScrubs (N : Nat) : List (CallSpec E) := [c_arena_New N, c_arena_Arena_Add N, c_arena_Arena_Take N, c_lodgelaw13_first N, c_lodgeworld_Number N, c_arena_Arena_Write N, c_arena_Arena_Remove N, c_arena_Arena_Read N, c_arena_Arena_Raw N, c_lodgeref_SameBytes N]
noncomputable abbrev b_lodgelaw13_ArenaScrubs : Code := pieces 18 ((Go.Proofs.Tryd.f6.body).getD .skip)

abbrev h_lodgelaw13_ArenaScrubs_1 : List Slot := [.data (.int .i64), .dead, .dead, .dead, .dead, .dead, .dead, .dead, .data (.hd 0), .dead, .dead, .dead, .dead, .dead, .dead, .dead, .dead, .dead, .dead, .dead, .sl (.int .u8), .dead, .data (.int .i64), .dead, .dead, .dead, .dead, .dead, .dead, .dead, .dead, .dead, .dead, .dead, .dead, .dead, .dead, .dead, .dead, .dead, .dead, .dead, .dead, .dead, .dead, .dead, .dead, .dead, .dead, .dead, .dead, .dead, .dead, .dead, .dead, .dead, .dead, .dead, .dead, .dead, .dead, .dead, .dead, .dead, .dead, .dead, .dead, .dead, .dead, .dead, .dead, .dead, .dead, .dead, .dead, .dead, .dead, .dead, .dead, .dead, .dead, .dead, .dead, .dead, .dead, .dead, .dead, .dead, .dead, .dead, .dead, .dead, .dead, .dead, .dead, .dead, .dead, .dead, .dead, .dead, .dead, .dead, .dead, .dead, .dead, .dead, .dead, .dead, .dead, .dead, .dead, .dead, .dead, .dead, .dead, .dead, .dead, .dead, .dead, .dead, .dead, .dead, .dead, .dead, .dead, .dead, .dead, .dead, .dead, .dead, .dead, .dead, .dead, .dead, .dead, .dead, .dead, .dead, .dead, .dead, .dead, .dead, .dead, .dead, .dead, .dead, .dead, .dead, .dead, .dead, .dead, .dead, .dead, .dead, .dead, .dead, .dead, .dead, .dead, .dead, .dead, .dead, .dead, .dead, .dead, .dead]
abbrev e_lodgelaw13_ArenaScrubs_1 : List (AX × List Slot) := [(AX.exit 0, [.data (.int .i64), .dead, .dead, .dead, .dead, .dead, .dead, .dead, .data (.hd 0), .dead, .dead, .dead, .dead, .dead, .dead, .dead, .dead, .dead, .dead, .dead, .sl (.int .u8), .dead, .dead, .dead, .dead, .dead, .dead, .dead, .dead, .dead, .dead, .dead, .dead, .dead, .dead, .dead, .dead, .dead, .dead, .dead, .dead, .dead, .dead, .dead, .dead, .dead, .dead, .dead, .dead, .dead, .dead, .dead, .dead, .dead, .dead, .dead, .dead, .dead, .dead, .dead, .dead, .dead, .dead, .dead, .dead, .dead, .dead, .dead, .dead, .dead, .dead, .dead, .dead, .dead, .dead, .dead, .dead, .dead, .dead, .dead, .dead, .dead, .dead, .dead, .dead, .dead, .dead, .dead, .dead, .dead, .dead, .dead, .dead, .dead, .dead, .dead, .dead, .dead, .dead, .dead, .dead, .dead, .dead, .dead, .dead, .dead, .dead, .dead, .dead, .dead, .dead, .dead, .dead, .dead, .dead, .dead, .dead, .dead, .dead, .dead, .dead, .dead, .dead, .dead, .dead, .dead, .dead, .dead, .dead, .dead, .dead, .dead, .dead, .dead, .dead, .dead, .dead, .dead, .dead, .dead, .dead, .dead, .dead, .dead, .dead, .dead, .dead, .dead, .dead, .dead, .dead, .dead, .dead, .dead, .dead, .dead, .dead, .dead, .dead, .dead, .dead, .dead, .dead, .dead, .dead, .dead]), (AX.ret, [.dead, .dead, .dead, .dead, .dead, .dead, .data .bool, .dead, .dead, .dead, .dead, .dead, .dead, .dead, .dead, .dead, .dead, .dead, .dead, .dead, .dead, .dead, .dead, .dead, .dead, .dead, .dead, .dead, .dead, .dead, .dead, .dead, .dead, .dead, .dead, .dead, .dead, .dead, .dead, .dead, .dead, .dead, .dead, .dead, .dead, .dead, .dead, .dead, .dead, .dead, .dead, .dead, .dead, .dead, .dead, .dead, .dead, .dead, .dead, .dead, .dead, .dead, .dead, .dead, .dead, .dead, .dead, .dead, .dead, .dead, .dead, .dead, .dead, .dead, .dead, .dead, .dead, .dead, .dead, .dead, .dead, .dead, .dead, .dead, .dead, .dead, .dead, .dead, .dead, .dead, .dead, .dead, .dead, .dead, .dead, .dead, .dead, .dead, .dead, .dead, .dead, .dead, .dead, .dead, .dead, .dead, .dead, .dead, .dead, .dead, .dead, .dead, .dead, .dead, .dead, .dead, .dead, .dead, .dead, .dead, .dead, .dead, .dead, .dead, .dead, .dead, .dead, .dead, .dead, .dead, .dead, .dead, .dead, .dead, .dead, .dead, .dead, .dead, .dead, .dead, .dead, .dead, .dead, .dead, .dead, .dead, .dead, .dead, .dead, .dead, .dead, .dead, .dead, .dead, .dead, .dead, .dead, .dead, .dead, .dead, .dead, .dead, .dead, .dead, .dead, .dead])]
def g_lodgelaw13_ArenaScrubs_1 (N : Nat) : Nat → List (List Int × (List (Option Nat) × Unit)) → List (Int × (Int × (Int × (List ((Int × Int)) × Unit)))) → Int → Option Nat → List Int → Int → Option (Sum ((List (List Int × (List (Option Nat) × Unit)) × (List (Int × (Int × (Int × (List ((Int × Int)) × Unit)))) × Unit)) × (Int × (Option Nat × (List Int × Unit)))) ((List (List Int × (List (Option Nat) × Unit)) × (List (Int × (Int × (Int × (List ((Int × Int)) × Unit)))) × Unit)) × (Bool × Unit)))
  | 0, _, _, _, _, _, _ => none
  | n + 1, T0, T1, size_0, a_8, c_20, k_22 =>
    cond (decide (k_22 < (Nat.cast (List.length c_20) : Int)))
      (
      cond (decide ((0 : Int) ≤ k_22))
        (
        cond (decide ((Int.toNat k_22) < (List.length c_20)))
          (
          cond (decide (((0 : Nat) + (Int.toNat k_22)) < (List.length c_20)))
            (
            cond (decide (@Ne Int (List.getD c_20 ((0 : Nat) + (Int.toNat k_22)) (0 : Int)) (0 : Int)))
              (
              some (Sum.inr ((T0, (T1, ())), (false, ()))))
              (
              cond (decide ((List.length c_20) = (List.length c_20)))
                (
                (g_lodgelaw13_ArenaScrubs_1 N n T0 T1 size_0 a_8 c_20 (wi64 (k_22 + (1 : Int)))))
                (
                none)))
            (
            none))
          (
          none))
        (
        none))
      (
      cond (decide ((List.length c_20) = (List.length c_20)))
        (
        some (Sum.inl ((T0, (T1, ())), (size_0, (a_8, (c_20, ()))))))
        (
        none))

abbrev h_lodgelaw13_ArenaScrubs_0 : List Slot := [.data (.int .i64), .data (.int .i64), .data (.sl (.int .u8)), .dead, .dead, .dead, .dead, .dead, .dead, .dead, .dead, .dead, .dead, .dead, .dead, .dead, .dead, .dead, .dead, .dead, .dead, .dead, .dead, .dead, .dead, .dead, .dead, .dead, .dead, .dead, .dead, .dead, .dead, .dead, .dead, .dead, .dead, .dead, .dead, .dead, .dead, .dead, .dead, .dead, .dead, .dead, .dead, .dead, .dead, .dead, .dead, .dead, .dead, .dead, .dead, .dead, .dead, .dead, .dead, .dead, .dead, .dead, .dead, .dead, .dead, .dead, .dead, .dead, .dead, .dead, .dead, .dead, .dead, .dead, .dead, .dead, .dead, .dead, .dead, .dead, .dead, .dead, .dead, .dead, .dead, .dead, .dead, .dead, .dead, .dead, .dead, .dead, .dead, .dead, .dead, .dead, .dead, .dead, .dead, .dead, .dead, .dead, .dead, .dead, .dead, .dead, .dead, .dead, .dead, .dead, .dead, .dead, .dead, .dead, .dead, .dead, .dead, .dead, .dead, .dead, .dead, .dead, .dead, .dead, .dead, .dead, .dead, .dead, .dead, .dead, .dead, .dead, .dead, .dead, .dead, .dead, .dead, .dead, .dead, .dead, .dead, .dead, .dead, .dead, .dead, .dead, .dead, .dead, .dead, .dead, .dead, .dead, .dead, .dead, .dead, .dead, .dead, .dead, .dead, .dead, .dead, .dead, .dead, .dead, .dead, .dead]
abbrev e_lodgelaw13_ArenaScrubs_0 : List (AX × List Slot) := [(AX.exit 99, [.data (.int .i64), .dead, .dead, .dead, .dead, .dead, .dead, .dead, .data (.hd 0), .dead, .dead, .dead, .dead, .dead, .dead, .dead, .dead, .dead, .dead, .dead, .sl (.int .u8), .dead, .dead, .box [.d (.int .i64)], .dead, .dead, .dead, .dead, .dead, .dead, .dead, .dead, .dead, .dead, .dead, .dead, .dead, .dead, .dead, .dead, .dead, .dead, .dead, .dead, .dead, .dead, .dead, .dead, .dead, .dead, .dead, .dead, .dead, .dead, .dead, .dead, .dead, .dead, .dead, .dead, .dead, .dead, .dead, .dead, .dead, .dead, .dead, .dead, .dead, .dead, .dead, .dead, .dead, .dead, .dead, .dead, .dead, .dead, .dead, .dead, .dead, .dead, .dead, .dead, .dead, .dead, .dead, .dead, .dead, .dead, .dead, .dead, .dead, .dead, .dead, .dead, .dead, .dead, .dead, .dead, .dead, .dead, .dead, .dead, .dead, .dead, .dead, .dead, .dead, .dead, .dead, .dead, .dead, .dead, .dead, .dead, .dead, .dead, .dead, .dead, .dead, .dead, .dead, .dead, .dead, .dead, .dead, .dead, .dead, .dead, .dead, .dead, .dead, .dead, .dead, .dead, .dead, .dead, .dead, .dead, .dead, .dead, .dead, .dead, .dead, .dead, .dead, .dead, .dead, .dead, .dead, .dead, .dead, .dead, .dead, .dead, .dead, .dead, .dead, .dead, .dead, .dead, .dead, .dead, .dead, .dead]), (AX.ret, [.dead, .dead, .dead, .dead, .dead, .dead, .data .bool, .dead, .dead, .dead, .dead, .dead, .dead, .dead, .dead, .dead, .dead, .dead, .dead, .dead, .dead, .dead, .dead, .dead, .dead, .dead, .dead, .dead, .dead, .dead, .dead, .dead, .dead, .dead, .dead, .dead, .dead, .dead, .dead, .dead, .dead, .dead, .dead, .dead, .dead, .dead, .dead, .dead, .dead, .dead, .dead, .dead, .dead, .dead, .dead, .dead, .dead, .dead, .dead, .dead, .dead, .dead, .dead, .dead, .dead, .dead, .dead, .dead, .dead, .dead, .dead, .dead, .dead, .dead, .dead, .dead, .dead, .dead, .dead, .dead, .dead, .dead, .dead, .dead, .dead, .dead, .dead, .dead, .dead, .dead, .dead, .dead, .dead, .dead, .dead, .dead, .dead, .dead, .dead, .dead, .dead, .dead, .dead, .dead, .dead, .dead, .dead, .dead, .dead, .dead, .dead, .dead, .dead, .dead, .dead, .dead, .dead, .dead, .dead, .dead, .dead, .dead, .dead, .dead, .dead, .dead, .dead, .dead, .dead, .dead, .dead, .dead, .dead, .dead, .dead, .dead, .dead, .dead, .dead, .dead, .dead, .dead, .dead, .dead, .dead, .dead, .dead, .dead, .dead, .dead, .dead, .dead, .dead, .dead, .dead, .dead, .dead, .dead, .dead, .dead, .dead, .dead, .dead, .dead, .dead, .dead])]
def g_lodgelaw13_ArenaScrubs_0 (N : Nat) : Nat → List (List Int × (List (Option Nat) × Unit)) → List (Int × (Int × (Int × (List ((Int × Int)) × Unit)))) → Int → Int → List Int → Option (Sum ((List (List Int × (List (Option Nat) × Unit)) × (List (Int × (Int × (Int × (List ((Int × Int)) × Unit)))) × Unit)) × (Int × (Option Nat × (List Int × ((Int × Unit) × Unit))))) ((List (List Int × (List (Option Nat) × Unit)) × (List (Int × (Int × (Int × (List ((Int × Int)) × Unit)))) × Unit)) × (Bool × Unit)))
  | 0, _, _, _, _, _ => none
  | n + 1, T0, T1, size_0, n_1, b_2 =>
    Option.bind (F_lodgelaw13_first N T0 T1) fun y18 =>
    cond (Bool.not ((y18).2).1)
      (
      some (Sum.inr ((y18).1, (false, ()))))
      (
      Option.bind (F_lodgeworld_Number N size_0 (200 : Int)) fun y19 =>
      Option.bind (F_lodgeworld_Number N n_1 (wi64 (((y19).2).1 + (1 : Int)))) fun y20 =>
      Option.bind (
          cond (decide ((200 : Int) < (Nat.cast (List.length b_2) : Int)))
            (
            some ((y18).1, ((wi64 (((y19).2).1 + (1 : Int))), ((wi64 (((y20).2).1 + (1 : Int))), (b_2, (((y18).2).1, (true, ())))))))
            (
            some ((y18).1, ((wi64 (((y19).2).1 + (1 : Int))), ((wi64 (((y20).2).1 + (1 : Int))), (b_2, (((y18).2).1, ((Bool.not ((y18).2).1), ())))))))) fun y21 =>
      cond ((((((y21).2).2).2).2).2).1
        (
        some (Sum.inr ((y21).1, ((((((y21).2).2).2).2).1, ()))))
        (
        Option.bind (F_arena_New N ((y21).1).1 (((y21).1).2).1 ((y21).2).1) fun y22 =>
        Option.bind (
            cond (@Option.isNone Nat ((y22).2).1)
              (
              some ((y22).1, (((y21).2).1, ((((y21).2).2).1, (((((y21).2).2).2).1, (((y22).2).1, (true, ())))))))
              (
              some ((y22).1, (((y21).2).1, ((((y21).2).2).1, (((((y21).2).2).2).1, (((y22).2).1, ((Bool.not (Go.Eng.Er.isNil (((y22).2).2).1)), ())))))))) fun y23 =>
        cond ((((((y23).2).2).2).2).2).1
          (
          some (Sum.inr ((y23).1, (false, ()))))
          (
          Option.bind (F_arena_Arena_Add N ((y23).1).1 (((y23).1).2).1 (((((y23).2).2).2).2).1 (7 : Int) ((y23).2).1) fun y24 =>
          Option.bind (F_arena_Arena_Take N ((y24).1).1 (((y24).1).2).1 (((((y23).2).2).2).2).1 (7 : Int) (((y23).2).2).1) fun y25 =>
          cond (decide ((0 : Int) ≤ (Go.Eng.imin (Nat.cast (List.length ((((y23).2).2).2).1) : Int) (((y23).2).2).1)))
            (
            cond (decide ((Int.toNat (Go.Eng.imin (Nat.cast (List.length ((((y23).2).2).2).1) : Int) (((y23).2).2).1)) ≤ (List.length ((((y23).2).2).2).1)))
              (
              Option.bind (F_arena_Arena_Write N ((y25).1).1 (((y25).1).2).1 (((((y23).2).2).2).2).1 (7 : Int) ((y25).2).1 (List.take ((Int.toNat (Go.Eng.imin (Nat.cast (List.length ((((y23).2).2).2).1) : Int) (((y23).2).2).1)) - (0 : Nat)) ((((y23).2).2).2).1)) fun y26 =>
              Option.bind (F_arena_Arena_Remove N ((y26).1).1 (((y26).1).2).1 (((((y23).2).2).2).2).1 (7 : Int)) fun y27 =>
              Option.bind (F_arena_Arena_Add N ((y27).1).1 (((y27).1).2).1 (((((y23).2).2).2).2).1 (8 : Int) ((y23).2).1) fun y28 =>
              Option.bind (F_arena_Arena_Take N ((y28).1).1 (((y28).1).2).1 (((((y23).2).2).2).2).1 (8 : Int) ((y23).2).1) fun y29 =>
              Option.bind (F_arena_Arena_Read N ((y29).1).1 (((y29).1).2).1 (((((y23).2).2).2).2).1 (8 : Int) ((y29).2).1 ((y23).2).1) fun y30 =>
              Option.bind (
                  cond (Bool.not (Go.Eng.Er.isNil (((y24).2).2).1))
                    (
                    cond (decide ((List.length ((y30).2).1) = (List.length ((y30).2).1)))
                      (
                      some ((y30).1, (((y23).2).1, ((((((y23).2).2).2).2).1, (((y30).2).1, (true, ()))))))
                      (
                      none))
                    (
                    cond (Bool.not (Go.Eng.Er.isNil (((y25).2).2).1))
                      (
                      cond (decide ((List.length ((y30).2).1) = (List.length ((y30).2).1)))
                        (
                        some ((y30).1, (((y23).2).1, ((((((y23).2).2).2).2).1, (((y30).2).1, (true, ()))))))
                        (
                        none))
                      (
                      cond (Bool.not ((y26).2).1)
                        (
                        cond (decide ((List.length ((y30).2).1) = (List.length ((y30).2).1)))
                          (
                          some ((y30).1, (((y23).2).1, ((((((y23).2).2).2).2).1, (((y30).2).1, (true, ()))))))
                          (
                          none))
                        (
                        cond (Bool.not ((y27).2).1)
                          (
                          cond (decide ((List.length ((y30).2).1) = (List.length ((y30).2).1)))
                            (
                            some ((y30).1, (((y23).2).1, ((((((y23).2).2).2).2).1, (((y30).2).1, (true, ()))))))
                            (
                            none))
                          (
                          cond (Bool.not (Go.Eng.Er.isNil (((y28).2).2).1))
                            (
                            cond (decide ((List.length ((y30).2).1) = (List.length ((y30).2).1)))
                              (
                              some ((y30).1, (((y23).2).1, ((((((y23).2).2).2).2).1, (((y30).2).1, (true, ()))))))
                              (
                              none))
                            (
                            cond (Bool.not (Go.Eng.Er.isNil (((y29).2).2).1))
                              (
                              cond (decide ((List.length ((y30).2).1) = (List.length ((y30).2).1)))
                                (
                                some ((y30).1, (((y23).2).1, ((((((y23).2).2).2).2).1, (((y30).2).1, (true, ()))))))
                                (
                                none))
                              (
                              cond (Bool.not (((y30).2).2).1)
                                (
                                cond (decide ((List.length ((y30).2).1) = (List.length ((y30).2).1)))
                                  (
                                  some ((y30).1, (((y23).2).1, ((((((y23).2).2).2).2).1, (((y30).2).1, (true, ()))))))
                                  (
                                  none))
                                (
                                cond (decide (@Ne Int ((((y28).2).1).2).1 (0 : Int)))
                                  (
                                  cond (decide ((List.length ((y30).2).1) = (List.length ((y30).2).1)))
                                    (
                                    some ((y30).1, (((y23).2).1, ((((((y23).2).2).2).2).1, (((y30).2).1, (true, ()))))))
                                    (
                                    none))
                                  (
                                  cond (decide (@Ne Int (Nat.cast (List.length ((y30).2).1) : Int) ((y23).2).1))
                                    (
                                    cond (decide ((List.length ((y30).2).1) = (List.length ((y30).2).1)))
                                      (
                                      some ((y30).1, (((y23).2).1, ((((((y23).2).2).2).2).1, (((y30).2).1, (true, ()))))))
                                      (
                                      none))
                                    (
                                    Option.bind (F_arena_Arena_Remove N ((y30).1).1 (((y30).1).2).1 (((((y23).2).2).2).2).1 (7 : Int)) fun y31 =>
                                    cond (decide ((List.length ((y30).2).1) = (List.length ((y30).2).1)))
                                      (
                                      some ((y31).1, (((y23).2).1, ((((((y23).2).2).2).2).1, (((y30).2).1, (y31).2)))))
                                      (
                                      none))))))))))) fun y32 =>
              cond (((((y32).2).2).2).2).1
                (
                some (Sum.inr ((y32).1, (false, ()))))
                (
                cond (decide ((List.length ((((y32).2).2).2).1) = (List.length ((((y32).2).2).2).1)))
                  (
                  Option.bind (g_lodgelaw13_ArenaScrubs_1 N N ((y32).1).1 (((y32).1).2).1 ((y32).2).1 (((y32).2).2).1 ((((y32).2).2).2).1 (0 : Int)) fun y33 =>
                  Sum.elim (fun y34 =>
                    cond (decide ((List.length ((((y34).2).2).2).1) = (List.length ((((y34).2).2).2).1)))
                      (
                      some (Sum.inl ((y34).1, (((y34).2).1, ((((y34).2).2).1, (((((y34).2).2).2).1, (((0 : Int), ()), ())))))))
                      (
                      none))
                    (fun y35 =>
                    some (Sum.inr y35)) y33)
                  (
                  none)))
              (
              none))
            (
            none))))

abbrev h_lodgelaw13_ArenaScrubs_2 : List Slot := [.data (.int .i64), .dead, .dead, .dead, .dead, .dead, .dead, .dead, .data (.hd 0), .dead, .dead, .dead, .dead, .dead, .dead, .dead, .dead, .dead, .dead, .dead, .sl (.int .u8), .dead, .dead, .box [.d (.int .i64)], .dead, .dead, .dead, .dead, .dead, .dead, .dead, .dead, .dead, .dead, .dead, .dead, .dead, .dead, .dead, .dead, .dead, .dead, .dead, .dead, .dead, .dead, .dead, .dead, .dead, .dead, .dead, .dead, .dead, .dead, .dead, .dead, .dead, .dead, .dead, .dead, .dead, .dead, .dead, .dead, .dead, .dead, .dead, .dead, .dead, .dead, .dead, .dead, .dead, .dead, .dead, .dead, .dead, .dead, .dead, .dead, .dead, .dead, .dead, .dead, .dead, .dead, .dead, .dead, .dead, .dead, .dead, .dead, .dead, .dead, .dead, .dead, .dead, .dead, .dead, .dead, .dead, .dead, .dead, .dead, .dead, .dead, .dead, .dead, .dead, .dead, .dead, .dead, .dead, .dead, .dead, .dead, .dead, .dead, .dead, .dead, .dead, .dead, .dead, .dead, .dead, .dead, .dead, .dead, .dead, .dead, .dead, .dead, .dead, .dead, .dead, .dead, .dead, .dead, .dead, .dead, .dead, .dead, .dead, .dead, .dead, .dead, .dead, .dead, .dead, .dead, .dead, .dead, .dead, .dead, .dead, .dead, .dead, .dead, .dead, .dead, .dead, .dead, .dead, .dead, .dead, .dead]
abbrev e_lodgelaw13_ArenaScrubs_2 : List (AX × List Slot) := [(AX.ret, [.dead, .dead, .dead, .dead, .dead, .dead, .data .bool, .dead, .dead, .dead, .dead, .dead, .dead, .dead, .dead, .dead, .dead, .dead, .dead, .dead, .dead, .dead, .dead, .dead, .dead, .dead, .dead, .dead, .dead, .dead, .dead, .dead, .dead, .dead, .dead, .dead, .dead, .dead, .dead, .dead, .dead, .dead, .dead, .dead, .dead, .dead, .dead, .dead, .dead, .dead, .dead, .dead, .dead, .dead, .dead, .dead, .dead, .dead, .dead, .dead, .dead, .dead, .dead, .dead, .dead, .dead, .dead, .dead, .dead, .dead, .dead, .dead, .dead, .dead, .dead, .dead, .dead, .dead, .dead, .dead, .dead, .dead, .dead, .dead, .dead, .dead, .dead, .dead, .dead, .dead, .dead, .dead, .dead, .dead, .dead, .dead, .dead, .dead, .dead, .dead, .dead, .dead, .dead, .dead, .dead, .dead, .dead, .dead, .dead, .dead, .dead, .dead, .dead, .dead, .dead, .dead, .dead, .dead, .dead, .dead, .dead, .dead, .dead, .dead, .dead, .dead, .dead, .dead, .dead, .dead, .dead, .dead, .dead, .dead, .dead, .dead, .dead, .dead, .dead, .dead, .dead, .dead, .dead, .dead, .dead, .dead, .dead, .dead, .dead, .dead, .dead, .dead, .dead, .dead, .dead, .dead, .dead, .dead, .dead, .dead, .dead, .dead, .dead, .dead, .dead, .dead])]
def g_lodgelaw13_ArenaScrubs_2 (N : Nat) : Nat → List (List Int × (List (Option Nat) × Unit)) → List (Int × (Int × (Int × (List ((Int × Int)) × Unit)))) → Int → Option Nat → List Int → (Int × Unit) → Option ((List (List Int × (List (Option Nat) × Unit)) × (List (Int × (Int × (Int × (List ((Int × Int)) × Unit)))) × Unit)) × (Bool × Unit))
  | 0, _, _, _, _, _, _ => none
  | n + 1, T0, T1, size_0, a_8, c_20, left_23 =>
    cond (decide ((left_23).1 = size_0))
      (
      Option.bind (F_arena_Arena_Raw N T0 T1 a_8 (0 : Int) size_0) fun y40 =>
      cond (decide (((0 : Nat) + (List.length ((y40).2).1)) ≤ (List.length ((y40).2).1)))
        (
        cond (decide (((0 : Nat) + (List.length c_20)) ≤ (List.length c_20)))
          (
          Option.bind (F_lodgeref_SameBytes N (List.take (List.length ((y40).2).1) ((y40).2).1) (List.take (List.length c_20) c_20)) fun y41 =>
          some ((y40).1, (y41).2))
          (
          none))
        (
        none))
      (
      some ((T0, (T1, ())), (false, ())))

abbrev j_lodgelaw13_ArenaScrubs_0 : Joins := [(23, [(AX.normal, [.data (.int .i64), .dead, .dead, .dead, .dead, .dead, .dead, .dead, .data (.hd 0), .dead, .dead, .dead, .dead, .dead, .dead, .dead, .dead, .dead, .dead, .dead, .sl (.int .u8), .dead, .dead, .dead, .dead, .dead, .dead, .dead, .dead, .dead, .dead, .dead, .dead, .dead, .dead, .dead, .dead, .dead, .dead, .dead, .dead, .dead, .dead, .dead, .dead, .dead, .dead, .dead, .dead, .dead, .dead, .dead, .dead, .dead, .dead, .dead, .dead, .dead, .dead, .dead, .dead, .dead, .dead, .dead, .dead, .dead, .dead, .dead, .dead, .dead, .dead, .dead, .dead, .dead, .dead, .dead, .dead, .dead, .dead, .dead, .dead, .dead, .dead, .dead, .dead, .dead, .dead, .dead, .dead, .dead, .dead, .dead, .dead, .dead, .dead, .dead, .dead, .dead, .dead, .dead, .dead, .dead, .dead, .dead, .dead, .dead, .dead, .dead, .dead, .dead, .dead, .dead, .dead, .dead, .dead, .dead, .dead, .dead, .dead, .dead, .dead, .dead, .dead, .dead, .dead, .dead, .dead, .dead, .dead, .dead, .dead, .dead, .dead, .dead, .dead, .dead, .dead, .data .bool, .dead, .dead, .dead, .dead, .dead, .dead, .dead, .dead, .dead, .dead, .dead, .dead, .dead, .dead, .dead, .dead, .dead, .dead, .dead, .dead, .dead, .dead, .dead, .dead, .dead, .dead, .dead, .dead])]),
  (13, [(AX.normal, [.data (.int .i64), .data (.int .i64), .data (.sl (.int .u8)), .dead, .dead, .dead, .dead, .dead, .data (.hd 0), .dead, .dead, .dead, .dead, .dead, .dead, .dead, .dead, .dead, .dead, .dead, .dead, .dead, .dead, .dead, .dead, .dead, .dead, .dead, .dead, .dead, .dead, .dead, .dead, .dead, .dead, .dead, .dead, .dead, .dead, .dead, .dead, .dead, .dead, .dead, .dead, .dead, .dead, .dead, .dead, .dead, .dead, .dead, .dead, .dead, .data .bool, .dead, .dead, .dead, .dead, .dead, .dead, .dead, .dead, .dead, .dead, .dead, .dead, .dead, .dead, .dead, .dead, .dead, .dead, .dead, .dead, .dead, .dead, .dead, .dead, .dead, .dead, .dead, .dead, .dead, .dead, .dead, .dead, .dead, .dead, .dead, .dead, .dead, .dead, .dead, .dead, .dead, .dead, .dead, .dead, .dead, .dead, .dead, .dead, .dead, .dead, .dead, .dead, .dead, .dead, .dead, .dead, .dead, .dead, .dead, .dead, .dead, .dead, .dead, .dead, .dead, .dead, .dead, .dead, .dead, .dead, .dead, .dead, .dead, .dead, .dead, .dead, .dead, .dead, .dead, .dead, .dead, .dead, .dead, .dead, .dead, .dead, .dead, .dead, .dead, .dead, .dead, .dead, .dead, .dead, .dead, .dead, .dead, .dead, .dead, .dead, .dead, .dead, .dead, .dead, .dead, .dead, .dead, .dead, .dead, .dead, .dead])]),
  (9, [(AX.normal, [.data (.int .i64), .data (.int .i64), .data (.sl (.int .u8)), .dead, .dead, .dead, .dead, .data .bool, .dead, .dead, .dead, .dead, .dead, .dead, .dead, .dead, .dead, .dead, .dead, .dead, .dead, .dead, .dead, .dead, .dead, .dead, .dead, .dead, .dead, .dead, .dead, .dead, .dead, .dead, .dead, .dead, .dead, .dead, .dead, .dead, .dead, .dead, .data .bool, .dead, .dead, .dead, .dead, .dead, .dead, .dead, .dead, .dead, .dead, .dead, .dead, .dead, .dead, .dead, .dead, .dead, .dead, .dead, .dead, .dead, .dead, .dead, .dead, .dead, .dead, .dead, .dead, .dead, .dead, .dead, .dead, .dead, .dead, .dead, .dead, .dead, .dead, .dead, .dead, .dead, .dead, .dead, .dead, .dead, .dead, .dead, .dead, .dead, .dead, .dead, .dead, .dead, .dead, .dead, .dead, .dead, .dead, .dead, .dead, .dead, .dead, .dead, .dead, .dead, .dead, .dead, .dead, .dead, .dead, .dead, .dead, .dead, .dead, .dead, .dead, .dead, .dead, .dead, .dead, .dead, .dead, .dead, .dead, .dead, .dead, .dead, .dead, .dead, .dead, .dead, .dead, .dead, .dead, .dead, .dead, .dead, .dead, .dead, .dead, .dead, .dead, .dead, .dead, .dead, .dead, .dead, .dead, .dead, .dead, .dead, .dead, .dead, .dead, .dead, .dead, .dead, .dead, .dead, .dead, .dead, .dead, .dead])])]
abbrev l_lodgelaw13_ArenaScrubs_2 (N : Nat) : LoopSpec E [0, 1] := ⟨2, h_lodgelaw13_ArenaScrubs_2, e_lodgelaw13_ArenaScrubs_2, fun x => g_lodgelaw13_ArenaScrubs_2 N N x.1.1 x.1.2.1 x.2.1 x.2.2.1 x.2.2.2.1 x.2.2.2.2.1⟩
abbrev l_lodgelaw13_ArenaScrubs_1 (N : Nat) : LoopSpec E [0, 1] := ⟨1, h_lodgelaw13_ArenaScrubs_1, e_lodgelaw13_ArenaScrubs_1, fun x => g_lodgelaw13_ArenaScrubs_1 N N x.1.1 x.1.2.1 x.2.1 x.2.2.1 x.2.2.2.1 x.2.2.2.2.1⟩
abbrev l_lodgelaw13_ArenaScrubs_0 (N : Nat) : LoopSpec E [0, 1] := ⟨0, h_lodgelaw13_ArenaScrubs_0, e_lodgelaw13_ArenaScrubs_0, fun x => g_lodgelaw13_ArenaScrubs_0 N N x.1.1 x.1.2.1 x.2.1 x.2.2.1 x.2.2.2.1⟩

theorem cs_lodgelaw13_ArenaScrubs_ok (S : Ini) (N : Nat) : CallsOK Go.Proofs.Tryd.prog E S (cs_lodgelaw13_ArenaScrubs N) :=
  .cons (F_arena_New_ok S N) (.cons (F_arena_Arena_Add_ok S N) (.cons (F_arena_Arena_Take_ok S N) (.cons (F_lodgelaw13_first_ok S N) (.cons (F_lodgeworld_Number_ok S N) (.cons (F_arena_Arena_Write_ok S N) (.cons (F_arena_Arena_Remove_ok S N) (.cons (F_arena_Arena_Read_ok S N) (.cons (F_arena_Arena_Raw_ok S N) (.cons (F_lodgeref_SameBytes_ok S N) (.nil))))))))))
noncomputable abbrev b_lodgelaw13_ArenaScrubs_2 : Code := (loopsOf b_lodgelaw13_ArenaScrubs).getD 2 .skip
theorem g_lodgelaw13_ArenaScrubs_2_ok (S : Ini) (N : Nat) : ∀ n x y, (fun (x : StV E [0, 1] h_lodgelaw13_ArenaScrubs_2) => g_lodgelaw13_ArenaScrubs_2 N n x.1.1 x.1.2.1 x.2.1 x.2.2.1 x.2.2.2.1 x.2.2.2.2.1) x = some y → LoopCon Go.Proofs.Tryd.prog E S b_lodgelaw13_ArenaScrubs_2 (encSlots E [0, 1] h_lodgelaw13_ArenaScrubs_2 x) (encEx E [0, 1] e_lodgelaw13_ArenaScrubs_2 y).1 (encEx E [0, 1] e_lodgelaw13_ArenaScrubs_2 y).2 :=
  loop_specJ E_ok mixed (E_ok.ks 6) (cs_lodgelaw13_ArenaScrubs_ok S N) (all := loopsOf b_lodgelaw13_ArenaScrubs) (ls := []) (.nil) (js := []) (i := 2) (by kernel_rfl) (inner_of (by kernel_rfl)) (head := h_lodgelaw13_ArenaScrubs_2) (ex := e_lodgelaw13_ArenaScrubs_2) (fun n (x : StV E [0, 1] h_lodgelaw13_ArenaScrubs_2) => g_lodgelaw13_ArenaScrubs_2 N n x.1.1 x.1.2.1 x.2.1 x.2.2.1 x.2.2.2.1 x.2.2.2.2.1) (fun _ => rfl) (fun n x => by kernel_rfl)
noncomputable abbrev b_lodgelaw13_ArenaScrubs_1 : Code := (loopsOf b_lodgelaw13_ArenaScrubs).getD 1 .skip
theorem g_lodgelaw13_ArenaScrubs_1_ok (S : Ini) (N : Nat) : ∀ n x y, (fun (x : StV E [0, 1] h_lodgelaw13_ArenaScrubs_1) => g_lodgelaw13_ArenaScrubs_1 N n x.1.1 x.1.2.1 x.2.1 x.2.2.1 x.2.2.2.1 x.2.2.2.2.1) x = some y → LoopCon Go.Proofs.Tryd.prog E S b_lodgelaw13_ArenaScrubs_1 (encSlots E [0, 1] h_lodgelaw13_ArenaScrubs_1 x) (encEx E [0, 1] e_lodgelaw13_ArenaScrubs_1 y).1 (encEx E [0, 1] e_lodgelaw13_ArenaScrubs_1 y).2 :=
  loop_specJ E_ok mixed (E_ok.ks 6) (cs_lodgelaw13_ArenaScrubs_ok S N) (all := loopsOf b_lodgelaw13_ArenaScrubs) (ls := []) (.nil) (js := []) (i := 1) (by kernel_rfl) (inner_of (by kernel_rfl)) (head := h_lodgelaw13_ArenaScrubs_1) (ex := e_lodgelaw13_ArenaScrubs_1) (fun n (x : StV E [0, 1] h_lodgelaw13_ArenaScrubs_1) => g_lodgelaw13_ArenaScrubs_1 N n x.1.1 x.1.2.1 x.2.1 x.2.2.1 x.2.2.2.1 x.2.2.2.2.1) (fun _ => rfl) (fun n x => by kernel_rfl)
noncomputable abbrev b_lodgelaw13_ArenaScrubs_0 : Code := (loopsOf b_lodgelaw13_ArenaScrubs).getD 0 .skip
theorem g_lodgelaw13_ArenaScrubs_0_ok (S : Ini) (N : Nat) : ∀ n x y, (fun (x : StV E [0, 1] h_lodgelaw13_ArenaScrubs_0) => g_lodgelaw13_ArenaScrubs_0 N n x.1.1 x.1.2.1 x.2.1 x.2.2.1 x.2.2.2.1) x = some y → LoopCon Go.Proofs.Tryd.prog E S b_lodgelaw13_ArenaScrubs_0 (encSlots E [0, 1] h_lodgelaw13_ArenaScrubs_0 x) (encEx E [0, 1] e_lodgelaw13_ArenaScrubs_0 y).1 (encEx E [0, 1] e_lodgelaw13_ArenaScrubs_0 y).2 :=
  loop_specJ E_ok mixed (E_ok.ks 6) (cs_lodgelaw13_ArenaScrubs_ok S N) (all := loopsOf b_lodgelaw13_ArenaScrubs) (ls := [l_lodgelaw13_ArenaScrubs_1 N]) (.cons (by kernel_rfl) (g_lodgelaw13_ArenaScrubs_1_ok S N N) (.nil)) (js := j_lodgelaw13_ArenaScrubs_0) (i := 0) (by kernel_rfl) (inner_of (by kernel_rfl)) (head := h_lodgelaw13_ArenaScrubs_0) (ex := e_lodgelaw13_ArenaScrubs_0) (fun n (x : StV E [0, 1] h_lodgelaw13_ArenaScrubs_0) => g_lodgelaw13_ArenaScrubs_0 N n x.1.1 x.1.2.1 x.2.1 x.2.2.1 x.2.2.2.1) (fun _ => rfl) (fun n x => by kernel_rfl)

end Go.Proofs.YtnbpgehpjhifgaaDoor.Lx

/-
  Used, walked: what a part's blocks come to.
-/
namespace Go.Proofs.LxArena
open Go Go.Eng Go.RowKit Go.Lib Go.Sort Go.Proofs Go.Shelf

def CellsAt (W : World) (b o : Nat) (vs : List Value) : Prop := ∀ (j : Nat) v, vs[j]? = some v → W.cell? ⟨b, o + j, none⟩ = some v

/-- a part, as it lies -/
structure PR where
  b : Nat
  id : Int
  off : Int
  size : Int
  l : List (Int × Int)
instance : Inhabited PR := ⟨⟨0, 0, 0, 0, []⟩⟩

def blkCells (l : List (Int × Int)) : List Value := l.flatMap fun x => [.int .i64 x.1, .int .i64 x.2]

def PartAt (W : World) (p : PR) : Prop := ∃ ad cap, CellsAt W p.b 0 [.int .i64 p.id, .int .i64 p.off, .int .i64 p.size, .slice ad p.l.length cap] ∧ p.l.length ≤ cap ∧
  (p.l.length ≠ 0 → ∃ bb bo, ad = some ⟨bb, bo, none⟩ ∧ CellsAt W bb bo (blkCells p.l))

def ArenaAt (W : World) (ab : Nat) (ps : List PR) : Prop := ∃ ad cap, W.cell? ⟨ab, 1, none⟩ = some (.slice ad ps.length cap) ∧ ps.length ≤ cap ∧
  (ps.length ≠ 0 → ∃ lb lo, ad = some ⟨lb, lo, none⟩ ∧ CellsAt W lb lo (ps.map fun p => .pointer (some ⟨p.b, 0, none⟩))) ∧ ∀ p, p ∈ ps → PartAt W p

def ptrOf : Option PR → Value
  | some p => .pointer (some ⟨p.b, 0, none⟩)
  | none => .pointer none

theorem find_hit {ps : List PR} {k : Nat} {id : Int} (hk : k < ps.length) (h : ps[k]!.id = id) (hn : ∀ j, j < k → ps[j]!.id ≠ id) : ps.find? (fun p => decide (p.id = id)) = some ps[k]! := by
  rw [List.find?_eq_some_iff_getElem]
  refine ⟨by simpa using h, k, hk, (getElem!_pos ps k hk).symm, fun j hj => ?_⟩
  have := hn j hj
  rw [getElem!_pos ps j (by omega)] at this
  simpa using this

theorem find_miss {ps : List PR} {id : Int} (hn : ∀ j, j < ps.length → ps[j]!.id ≠ id) : ps.find? (fun p => decide (p.id = id)) = none := by
  rw [List.find?_eq_none]
  intro p hp
  obtain ⟨j, hj, rfl⟩ := List.mem_iff_getElem.1 hp
  have := hn j hj
  rw [getElem!_pos ps j hj] at this
  simpa using this

set_option maxHeartbeats 2000000 in
theorem find_raw {W : World} {ab : Nat} {ps : List PR} {id : Int} (h : ArenaAt W ab ps) (hs : ps.length ≤ 1099511627776) :
    Calls Tryd.prog 22 #[.pointer (some ⟨ab, 0, none⟩), .int .i64 id] W fun e w' => e = .returned (ptrOf (ps.find? fun p => decide (p.id = id))) ∧ ∃ q, w' = W.drewN q := by
  have mixed : Tryd.prog.follows .mixedOrders = true := by kernel_rfl
  obtain ⟨ad, cap, hl, hcap, hrow, hparts⟩ := h
  have hpt : ∀ j, j < ps.length → ∃ lb lo, ad = some ⟨lb, lo, none⟩ ∧ W.cell? ⟨lb, lo + j, none⟩ = some (.pointer (some ⟨ps[j]!.b, 0, none⟩)) ∧ W.cell? ⟨ps[j]!.b, 0, none⟩ = some (.int .i64 ps[j]!.id) := by
    intro j hj
    obtain ⟨lb, lo, e, hc⟩ := hrow (by omega)
    refine ⟨lb, lo, e, ?_, ?_⟩
    · refine hc j _ ?_
      rw [List.getElem?_map, List.getElem?_eq_getElem hj, getElem!_pos ps j hj]
      rfl
    · rw [getElem!_pos ps j hj]
      obtain ⟨_, _, hp, _⟩ := hparts ps[j] (List.getElem_mem hj)
      exact hp 0 _ rfl
  clear hrow hparts
  obtain ⟨n, hn⟩ : ∃ n, n = ps.length := ⟨_, rfl⟩
  rw [← hn] at hl hcap hs hpt
  go_enter Tryd.func22, Tryd.ntmps22
  go_wp2
  go_loopg [6, 12] n (fun gg _ s12 wr => ∃ kk q : Nat, kk ≤ n ∧ n - kk ≤ gg ∧ s12 = .int .i64 kk ∧ wr = W.drewN q ∧ Aside (∀ j, j < kk → ps[j]!.id ≠ id))
  case atStart => exact ⟨0, 0, Nat.zero_le _, by omega, rfl, rfl, fun j hj => absurd hj (Nat.not_lt_zero _)⟩
  case round =>
    obtain ⟨kk, q, hkk, hg, rfl, rfl, A⟩ := hrel
    by_cases hlt : kk < n
    · have hltz : (kk : Int) < (n : Int) := by omega
      obtain ⟨lb, lo, rfl, h1, h2⟩ := hpt kk hlt
      clear hpt
      generalize hy : ps[kk]!.id = y at h2
      generalize hb : ps[kk]!.b = pb at h1 h2
      have B : Aside (ps[kk]!.id = y ∧ ps[kk]!.b = pb) := ⟨hy, hb⟩
      clear hy hb
      by_cases e : y = id
      · subst e
        go_wp2
        go_ret
        refine ⟨?_, q, rfl⟩
        rw [find_hit (by omega) B.out.1 A.out]
        show _ = Ending.returned (Value.pointer (some ⟨ps[kk]!.b, 0, none⟩))
        rw [B.out.2]
        rfl
      · have e' : (y == id) = false := beq_eq_false_iff_ne.2 e
        go_wp2
        go_roundg (n - (kk + 1))
        case measure => omega
        case rel =>
          refine ⟨kk + 1, _, by omega, by omega, by go_num, rfl, (show Aside _ from fun j hj => ?_)⟩
          by_cases ej : j = kk
          · subst ej
            rw [B.out.1]; exact e
          · exact A.out j (by omega)
    · have hltz : ¬ (kk : Int) < (n : Int) := by omega
      have : kk = n := by omega
      subst this
      go_wp2
      go_ret
      refine ⟨?_, q, rfl⟩
      rw [find_miss (fun j hj => A.out j (by omega))]
      rfl


/-- what lies in a block of its own -/
def OwnAt (W : World) (b : Nat) (vs : List Value) : Prop := ∃ cs T, W.heap[b]? = some (.cells cs T (0, 0)) ∧ ∀ (j : Nat) v, vs[j]? = some v → cs[j]? = some v

theorem blk_length (l : List (Int × Int)) : (blkCells l).length = 2 * l.length := by
  induction l with
  | nil => rfl
  | cons x r ih =>
    simp only [blkCells, List.flatMap_cons, List.length_append, List.length_cons, List.length_nil] at ih ⊢
    omega

theorem blk_at (l : List (Int × Int)) : ∀ (k : Nat) (hk : k < l.length), (blkCells l)[2 * k]? = some (.int .i64 l[k].1) ∧ (blkCells l)[2 * k + 1]? = some (.int .i64 l[k].2) := by
  induction l with
  | nil => intro k hk; cases hk
  | cons x r ih =>
    intro k hk
    cases k with
    | zero => exact ⟨rfl, rfl⟩
    | succ k =>
      have := ih k (by simpa using hk)
      simp only [List.getElem_cons_succ]
      exact this

def renC : Ren := ⟨fun | 41 => 36 | n => n, fun | 4 => 4 | 22 => 62 | 23 => 66 | n => n, fun n => n⟩
theorem laysC : SlLaysE0.n41 Tryd.prog renC where
  mixed := by kernel_rfl
  f41 := ⟨Tryd.f36.name, by kernel_rfl, by kernel_rfl⟩
  t4 := by kernel_rfl
  a4 := Tryd.isAgg4
  z4 := Tryd.sizeOf4
  v4 := Tryd.zeroValue4
  t22 := by kernel_rfl
  a22 := Tryd.isAgg62
  z22 := Tryd.sizeOf62
  v22 := Tryd.zeroValue62

theorem grown_of {W w' : World} (h : Below W.heap.size W w') : W.grownBy w' none := ⟨h.os, h.tape, h.output, h.size, fun k hk _ => h.block k hk⟩

set_option maxHeartbeats 2000000 in
theorem clone_zero {W : World} {a : Addr} {cap : Nat} : Calls Tryd.prog 36 #[.slice (some a) 0 cap] W fun e w' => e = .returned (.slice (some ⟨W.heap.size, 0, none⟩) 0 0) ∧ w' = W.alloc (.cells #[] 66) := by
  have mixed : Tryd.prog.follows .mixedOrders = true := by kernel_rfl
  have t62 : Tryd.prog.underlying 62 = some (.slice 66) := by kernel_rfl
  obtain ⟨i0, hi0, hz0, hz1, hz2⟩ := info_parts (show (Tryd.prog.info? 66).map (fun i => (i.zero, i.size, i.bytes)) = some (some (.agg #[.int .i64 0, .int .i64 0]), 2, 16) by kernel_rfl)
  have q62 : ∀ (w : World) (a : Option Addr) (n c n' c' : Nat), (binOp .eql 62 (.slice a n c) (.slice none n' c')).run Tryd.prog w = .ok (.bool a.isNone) w := fun w a n c n' c' => Lib.run_eql_slice_nil w _ _ a n c n' c' t62
  have hrun : ∀ ty, (Builtin.append_ #[62, 62] ty #[.slice (some ⟨W.heap.size, 0, none⟩) 0 0, .slice (some a) 0 cap]).run Tryd.prog (W.alloc (.cells #[] 66)) = .ok (.slice (some ⟨W.heap.size, 0, none⟩) 0 0) (W.alloc (.cells #[] 66)) := fun ty => by
    have := run_append_room_cells (P := Tryd.prog) (W.alloc (.cells #[] 66)) 62 ty 66 i0 t62 hi0 W.heap.size 0 0 0 a 0 cap [] (by simp) (fun j u hj => by simp at hj) (fun u hu => by cases hu) (Nat.le_refl _) (fun j hj => by simp at hj) (fun j hj => by simp at hj)
    simpa [World.setCells] using this
  go_enter Tryd.func36, Tryd.ntmps36
  go_wp2_with (at_builtin; refine Lib.wpList_append_run _ rfl _ _ _ _ rfl _ _ rfl rfl _ _ (hrun _) ?_)
  go_ret
  exact ⟨rfl, rfl⟩

/-- a part's blocks, copied -/
theorem clone_raw {W : World} {l : List (Int × Int)} {ad : Option Addr} {cap : Nat} (hs : l.length ≤ 1000000) (h : l.length ≠ 0 → ∃ bb bo, ad = some ⟨bb, bo, none⟩ ∧ CellsAt W bb bo (blkCells l)) :
    Calls Tryd.prog 36 #[.slice ad l.length cap] W fun e w' => ∃ ad' cap', e = .returned (.slice ad' l.length cap') ∧ W.grownBy w' none ∧ (l.length ≠ 0 → ∃ b, ad' = some ⟨b, 0, none⟩ ∧ W.heap.size ≤ b ∧ OwnAt w' b (blkCells l)) := by
  obtain ⟨i0, hi0, hz0, hz1, hz2⟩ := info_parts (show (Tryd.prog.info? 66).map (fun i => (i.zero, i.size, i.bytes)) = some (some (.agg #[.int .i64 0, .int .i64 0]), 2, 16) by kernel_rfl)
  by_cases hl : l.length = 0
  · cases ad with
    | none =>
      refine (AnyE.slices_Clone_nil laysC l.length cap W).mono ?_
      rintro e w' ⟨rfl, rfl⟩
      exact ⟨none, 0, by rw [hl], ⟨rfl, rfl, rfl, Nat.le_refl _, fun _ _ _ => rfl⟩, fun hn => absurd hl hn⟩
    | some a =>
      rw [hl]
      refine clone_zero.mono ?_
      rintro e w' ⟨rfl, rfl⟩
      exact ⟨_, _, rfl, World.grownBy_alloc W _ none, fun hn => absurd rfl hn⟩
  · obtain ⟨b, o, rfl, hc⟩ := h hl
    refine (AnyE.slices_Clone laysC i0 _ 2 16 hi0 hz0 hz1 hz2 rfl (by omega) Tryd.sizeOf66 b o l.length cap (blkCells l) W (by rw [blk_length]; omega) (by unfold maxLen; omega) (by omega) hc (fun u hu => ?_)).mono ?_
    · simp only [blkCells, List.mem_flatMap] at hu
      obtain ⟨x, _, hu⟩ := hu
      simp only [List.mem_cons, List.not_mem_nil, or_false] at hu
      rcases hu with rfl | rfl <;> rfl
    · rintro e w' ⟨v', rfl, ⟨hlen, hrow⟩, hne, hb⟩
      rcases hrow with ⟨e0, _⟩ | ⟨g, cp, cur, rfl, hg, hh, hcp, _, hcs, htk⟩
      · exact absurd e0 hne
      · refine ⟨_, _, rfl, grown_of hb, fun _ => ⟨g, rfl, hg, cur, _, hh, fun j v hj => ?_⟩⟩
        rw [← htk, List.getElem?_take] at hj
        split at hj
        · rw [← Array.getElem?_toList]; exact hj
        · cases hj

/-- what a round leaves as it is -/
def Kp (base : Nat) (A B : World) : Prop := A.heap.size ≤ B.heap.size ∧ ∀ b, base ≤ b → (∃ cs T fz, A.heap[b]? = some (.cells cs T fz)) → B.heap[b]? = A.heap[b]?

theorem Kp.trans {base : Nat} {A B C : World} (h : Kp base A B) (k : Kp base B C) : Kp base A C :=
  ⟨Nat.le_trans h.1 k.1, fun b hb hc => by
    have e := h.2 b hb hc
    rw [k.2 b hb (by rw [e]; exact hc), e]⟩

theorem Kp.put {base : Nat} (W : World) (l : Nat) (o o' : Obj) (h : W.heap[l]? = some o) (ho : o.isCells = false) : Kp base W (W.putObj l o') :=
  ⟨by simp, fun b _ hc => by
    by_cases e : b = l
    · subst e
      obtain ⟨cs, T, fz, hc⟩ := hc
      rw [h] at hc
      injection hc with hc
      subst hc
      cases ho
    · exact World.putObj_heap_other e⟩

abbrev encs2 (x : Int × Int) : Array Value := #[.int .i64 x.1, .int .i64 x.2]
def blocksOf (ps : List PR) (id : Int) : List (Int × Int) := match ps.find? (fun p => decide (p.id = id)) with
  | some p => p.l
  | none => []

theorem grown_drew (W : World) (q : Nat) : W.grownBy (W.drewN q) none := ⟨rfl, rfl, rfl, Nat.le_refl _, fun _ _ _ => rfl⟩

theorem CellsAt.below {w W : World} (hW : Below w.heap.size w W) {b o : Nat} {vs : List Value} (h : CellsAt w b o vs) : CellsAt W b o vs := fun j v hj => by
  have := h j v hj
  have hlt : b < w.heap.size := by
    unfold World.cell? at this
    cases hh : w.heap[b]? with
    | none => simp [hh] at this
    | some x => exact (Array.getElem?_eq_some_iff.1 hh).1
  rw [World.cell?_of_block (hW.block b hlt)]
  exact this

theorem cell_below {w W : World} (hW : Below w.heap.size w W) {b o : Nat} {v : Value} (h : w.cell? ⟨b, o, none⟩ = some v) : W.cell? ⟨b, o, none⟩ = some v := CellsAt.below (vs := [v]) (o := o) hW (fun j u hu => by
  cases j with
  | zero => simp at hu; subst hu; exact h
  | succ j => simp at hu) 0 v rfl

theorem PartAt.below {w W : World} (hW : Below w.heap.size w W) {p : PR} (h : PartAt w p) : PartAt W p := by
  obtain ⟨ad, cap, h1, h2, h3⟩ := h
  refine ⟨ad, cap, h1.below hW, h2, fun hn => ?_⟩
  obtain ⟨bb, bo, e, hc⟩ := h3 hn
  exact ⟨bb, bo, e, hc.below hW⟩

theorem ArenaAt.below {w W : World} (hW : Below w.heap.size w W) {ab : Nat} {ps : List PR} (h : ArenaAt w ab ps) : ArenaAt W ab ps := by
  obtain ⟨ad, cap, h1, h2, h3, h4⟩ := h
  refine ⟨ad, cap, cell_below hW h1, h2, fun hn => ?_, fun p hp => (h4 p hp).below hW⟩
  obtain ⟨lb, lo, e, hc⟩ := h3 hn
  exact ⟨lb, lo, e, hc.below hW⟩

set_option maxRecDepth 100000 in
set_option maxHeartbeats 4000000 in
theorem blocks_stops {w : World} {n : Nat} (hn : 1 ≤ n) {ca ci ab : Nat} {id : Int} {ps : List PR} (hca : w.cell? ⟨ca, 0, none⟩ = some (.pointer (some ⟨ab, 0, none⟩))) (hci : w.cell? ⟨ci, 0, none⟩ = some (.int .i64 id)) (hA : ArenaAt w ab ps)
    (hps : ps.length ≤ 1000000) (hbl : ∀ p, p ∈ ps → p.l.length ≤ 1000000) :
    SeqStopsK Fence.wide n Tryd.prog 35 #[.pointer (some ⟨ca, 0, none⟩), .pointer (some ⟨ci, 0, none⟩)] encs2 (Kp w.heap.size) (fun xs => xs = blocksOf ps id) (fun _ => True) 1000000 w := fun l J Jx W hW hJ _ hY h0 => by
  have mixed : Tryd.prog.follows .mixedOrders = true := by kernel_rfl
  have hca' := cell_below hW hca
  have hci' := cell_below hW hci
  have hA' := hA.below hW
  have hbase := hW.size
  have hfind := find_raw (id := id) hA' (by omega)
  obtain ⟨_, _, _, _, _, hparts⟩ := hA'
  clear hca hci hA hps
  have hfindC : ∀ m, CallsIn Fence.wide m Tryd.prog 22 #[.pointer (some ⟨ab, 0, none⟩), .int .i64 id] W fun e w' => e = .returned (ptrOf (ps.find? fun p => decide (p.id = id))) ∧ ∃ q, w' = W.drewN q := fun m => callsIn_wide.2 hfind
  have hcloneC : ∀ (m q : Nat) (ad : Option Addr) (cap : Nat) (l : List (Int × Int)), l.length ≤ 1000000 → (l.length ≠ 0 → ∃ bb bo, ad = some ⟨bb, bo, none⟩ ∧ CellsAt W bb bo (blkCells l)) →
    CallsIn Fence.wide m Tryd.prog 36 #[.slice ad l.length cap] (W.drewN q) fun e w' => ∃ ad' cap', e = .returned (.slice ad' l.length cap') ∧ (W.drewN q).grownBy w' none ∧ (l.length ≠ 0 → ∃ b, ad' = some ⟨b, 0, none⟩ ∧ W.heap.size ≤ b ∧ OwnAt w' b (blkCells l)) := fun m q ad cap l hs h => callsIn_wide.2 (clone_raw (W := W.drewN q) hs h)
  have h22 : Fence.wide.fn 22 := trivial
  have h36 : Fence.wide.fn 36 := trivial
  have h35 : Fence.wide.fn 35 := trivial
  have hro : Fence.wide.round = none := rfl
  generalize Fence.wide = F at *
  clear hfind
  refine callsIn_of_wp Tryd.func35 rfl h35 ?_ hro
  unfold blocksOf
  simp only [Tryd.ntmps35, List.size_toArray, List.length_cons, List.length_nil, Nat.reduceAdd, Nat.reduceSub, Array.replicate_succ, Array.replicate_zero, List.push_toArray, List.append_toArray, List.nil_append, List.cons_append]
  cases hf : ps.find? (fun p => decide (p.id = id)) with
  | none =>
    rw [hf] at hfindC
    simp only [ptrOf] at hfindC
    clear hf hparts hbl hcloneC
    gi_wp2_with (gi_at_call 22; refine (hfindC _).mono ?_; rintro e w' ⟨rfl, q, rfl⟩)
    refine bodyPost_ret (results_none rfl _ _ _) rfl ?_
    exact ⟨⟨_, rfl⟩, .inl (hJ [] W _ none h0 (grown_drew W q) (fun r e => by cases e))⟩
  | some p =>
    rw [hf] at hfindC
    simp only [ptrOf] at hfindC
    have hp : p ∈ ps := List.mem_of_find?_eq_some hf
    obtain ⟨ad, cap, hpc, hcap, hrow⟩ := hparts p hp
    have hlen := hbl p hp
    have h3 : W.cell? ⟨p.b, 3, none⟩ = some (.slice ad p.l.length cap) := by
      have := hpc 3 _ rfl
      simpa using this
    have hcl := fun (m q : Nat) => hcloneC m q ad cap p.l hlen hrow
    clear hf hparts hbl hcloneC hpc hrow
    obtain ⟨pb, hpb⟩ : ∃ pb, pb = p.b := ⟨_, rfl⟩
    obtain ⟨L, hL⟩ : ∃ L, L = p.l := ⟨_, rfl⟩
    rw [← hpb] at hfindC h3
    rw [← hL] at h3 hcl hcap hlen
    simp only [← hL]
    clear hL hpb hp
    gi_wp2_with (first
      | (gi_at_call 22; refine (hfindC _).mono ?_; rintro e w' ⟨rfl, q, rfl⟩)
      | (gi_at_call 36; refine (hcl _ _).mono ?_; rintro e w' ⟨ad', cap', rfl, hg1, hown⟩))
    obtain ⟨b, hb⟩ : ∃ b, L.length ≠ 0 → ad' = some ⟨b, 0, none⟩ ∧ W.heap.size ≤ b ∧ OwnAt w' b (blkCells L) := by
      by_cases hz : L.length = 0
      · exact ⟨0, fun h => absurd hz h⟩
      · obtain ⟨b, h⟩ := hown hz
        exact ⟨b, fun _ => h⟩
    have hJ1 : J [] w' := hJ [] _ w' none (hJ [] W _ none h0 (grown_drew W q) (fun r e => by cases e)) hg1 (fun r e => by cases e)
    have hsz1 : W.heap.size ≤ w'.heap.size := hg1.size
    have hsz2 : W.heap.size + 0 ≤ w'.heap.size := hsz1
    clear hown hg1 h3 hcl hfindC hca' hci' h0 hsz2
    gi_loopw [6, 18] (fun _ s18 wr => ∃ k : Nat, k ≤ L.length ∧ s18 = .int .i64 k ∧ W.heap.size ≤ wr.heap.size ∧ (L.length ≠ 0 → ad' = some ⟨b, 0, none⟩ ∧ W.heap.size ≤ b ∧ OwnAt wr b (blkCells L)) ∧ J (L.take k) wr)
      (fun _ s18 _ => L.length - (Lib.intOf s18).toNat)
    case atStart => exact ⟨0, Nat.zero_le _, rfl, hsz1, hb, by rw [List.take_zero]; exact hJ1⟩
    case round =>
      clear hb hJ1 hsz1
      obtain ⟨k, hk, rfl, hsz, hb, hJs⟩ := hrel
      by_cases hlt : k < L.length
      · have hltz : (k : Int) < (L.length : Int) := by omega
        obtain ⟨rfl, hwb, cs, T, hh, hcs⟩ := hb (by omega)
        obtain ⟨c0, c1⟩ := blk_at L k hlt
        have c0 : wr.cell? ⟨b, k * 2, none⟩ = some (.int .i64 L[k].1) := by
          rw [cell?_cells hh, Nat.mul_comm]; exact hcs _ _ c0
        have c1 : wr.cell? ⟨b, k * 2 + 1, none⟩ = some (.int .i64 L[k].2) := by
          rw [cell?_cells hh, Nat.mul_comm]; exact hcs _ _ c1
        obtain ⟨x, hx⟩ : ∃ x, x = L[k] := ⟨_, rfl⟩
        rw [← hx] at c0 c1
        have htk : L.take (k + 1) = L.take k ++ [x] := by rw [hx]; exact List.take_succ_eq_append_getElem hlt
        have hgr : wr.grownBy (wr.alloc (.cells #[.int .i64 x.1, .int .i64 x.2] 66)) none := World.grownBy_alloc wr _ none
        have hJ2 : J (L.take k) (wr.alloc (.cells #[.int .i64 x.1, .int .i64 x.2] 66)) := hJ _ wr _ none hJs hgr (fun r e => by cases e)
        have hown2 : (wr.alloc (.cells #[.int .i64 x.1, .int .i64 x.2] 66)).heap[b]? = some (.cells cs T (0, 0)) := (Below.heap_alloc wr _ b (Array.getElem?_eq_some_iff.1 hh).1).trans hh
        obtain ⟨fn, tmps, assign, body, hy, hR⟩ := hY (L.take k) x _ hJ2 (by rw [List.length_take]; omega)
        have hsz3 : W.heap.size ≤ (wr.alloc (.cells #[.int .i64 x.1, .int .i64 x.2] 66)).heap.size := by rw [World.size_alloc]; omega
        rw [← htk] at hR
        have hkeep : ∀ W3 : World, Kp w.heap.size (wr.alloc (.cells #[.int .i64 x.1, .int .i64 x.2] 66)) W3 → W.heap.size ≤ W3.heap.size ∧ OwnAt W3 b (blkCells L) := fun W3 hk3 =>
          ⟨Nat.le_trans hsz3 hk3.1, cs, T, (hk3.2 b (by omega) ⟨cs, T, _, hown2⟩).trans hown2, hcs⟩
        have hwb' : Aside (W.heap.size ≤ b) := hwb
        clear hx hh hcs hJ2 hgr hown2 hsz3 hJs htk hwb
        dsimp only [encs2] at hy
        gi_wp2
        refine hR.mono ?_
        rintro e W3 (⟨rfl, hJ3, hk3⟩ | ⟨rfl, hJx3⟩)
        · obtain ⟨hs3, ho3⟩ := hkeep W3 hk3
          clear hR hkeep hk3
          gi_wp2
          go_roundw
          case rel => exact ⟨k + 1, by omega, by go_num, hs3, fun _ => ⟨trivial, hwb'.out, ho3⟩, hJ3⟩
          case measure =>
            show L.length - ((k : Int) + 1).toNat < L.length - ((k : Int)).toNat
            omega
        · clear hR hkeep
          gi_wp2
          refine bodyPost_ret (results_none rfl _ _ _) rfl ?_
          exact ⟨⟨_, rfl⟩, .inr ⟨_, trivial, hJx3⟩⟩
      · have hltz : ¬ (k : Int) < (L.length : Int) := by omega
        have hkL : k = L.length := by omega
        subst hkL
        rw [List.take_length] at hJs
        clear hb
        gi_wp2
        go_end0
        exact ⟨⟨_, rfl⟩, .inl hJs⟩


def sumW (l : List (Int × Int)) : Int := l.foldl (fun s x => wrap64 (s + x.2)) 0
theorem sumW_snoc (pre : List (Int × Int)) (x : Int × Int) : sumW (pre ++ [x]) = wrap64 (sumW pre + x.2) := by simp [sumW]

/-- more lies there; what lay, lies -/
structure Grown (w W : World) : Prop where
  size : w.heap.size ≤ W.heap.size
  block : ∀ b, b < w.heap.size → W.heap[b]? = w.heap[b]?
  io : IO w W

theorem Grown.by {w W W' : World} {row : Option Nat} (h : Grown w W) (hg : W.grownBy W' row) (hr : ∀ r, row = some r → w.heap.size ≤ r) : Grown w W' :=
  ⟨Nat.le_trans h.size hg.size, fun b hb => (hg.block b (Nat.lt_of_lt_of_le hb h.size) (fun e => by have := hr b e.symm; omega)).trans (h.block b hb), h.io.trans ⟨hg.os, hg.tape, hg.output⟩⟩


set_option maxHeartbeats 1000000 in
theorem blocks_in {F : Fence} {n : Nat} (hf : F.fn 20) (hro : F.round = none) (v : Value) (h1 : v.oneCell' = true) (id : Int) (W : World) :
    CallsIn F n Tryd.prog 20 #[v, .int .i64 id] W fun e w' => e = .returned (.func (.func 35) #[] #[.pointer (some ⟨W.heap.size, 0, none⟩), .pointer (some ⟨W.heap.size + 1, 0, none⟩)]) ∧ w' = (W.alloc (.cells #[v] 24)).alloc (.cells #[.int .i64 id] 3) := by
  have mixed : Tryd.prog.follows .mixedOrders = true := by kernel_rfl
  refine callsIn_of_wp Tryd.func20 rfl hf ?_ hro
  have hc : v.cells = #[v] := by cases v <;> first | rfl | cases h1
  simp only [Value.cells] at hc
  simp only [Tryd.ntmps20, List.size_toArray, List.length_cons, List.length_nil, Nat.reduceAdd, Nat.reduceSub, Array.replicate_succ, Array.replicate_zero, List.push_toArray, List.append_toArray, List.nil_append, List.cons_append]
  gi_wp2
  go_ret
  exact ⟨rfl, rfl⟩

set_option maxRecDepth 100000 in
set_option maxHeartbeats 4000000 in
theorem used_raw {w : World} {ab : Nat} {id : Int} {ps : List PR} (hA : ArenaAt w ab ps) (hps : ps.length ≤ 1000000) (hbl : ∀ p, p ∈ ps → p.l.length ≤ 1000000) :
    Calls Tryd.prog 13 #[.pointer (some ⟨ab, 0, none⟩), .int .i64 id] w fun e w' => e = .returned (.int .i64 (sumW (blocksOf ps id))) ∧ Grown w w' := by
  have mixed : Tryd.prog.follows .mixedOrders = true := by kernel_rfl
  rw [← callsIn_wide (n := 5)]
  have hstops : ∀ W : World, Below w.heap.size w W → ∀ ca ci, W.cell? ⟨ca, 0, none⟩ = some (.pointer (some ⟨ab, 0, none⟩)) → W.cell? ⟨ci, 0, none⟩ = some (.int .i64 id) →
      SeqStopsK Fence.wide 4 Tryd.prog 35 #[.pointer (some ⟨ca, 0, none⟩), .pointer (some ⟨ci, 0, none⟩)] encs2 (Kp W.heap.size) (fun xs => xs = blocksOf ps id) (fun _ => True) 1000000 W :=
    fun W hW ca ci h1 h2 => blocks_stops (by omega) h1 h2 (hA.below hW) hps hbl
  have h20 : Fence.wide.fn 20 := trivial
  have h35 : Fence.wide.fn 35 := trivial
  have h13 : Fence.wide.fn 13 := trivial
  have hro : Fence.wide.round = none := rfl
  generalize Fence.wide = F at *
  clear hA hps hbl
  have hn1 : 1 ≤ 5 := by omega
  refine callsIn_of_wp_marks Tryd.func13 rfl h13 ?_ hro
  simp only [Tryd.ntmps13, List.size_toArray, List.length_cons, List.length_nil, Nat.reduceAdd, Nat.reduceSub, Array.replicate_succ, Array.replicate_zero, List.push_toArray, List.append_toArray, List.nil_append, List.cons_append]
  gi_wp2_with (gi_at_call 20; refine (blocks_in h20 hro _ rfl id _).mono ?_; rintro e w' ⟨rfl, rfl⟩)
  obtain ⟨w1, hw1⟩ : ∃ w1, w1 = ((w.alloc (.cells #[.int .i64 0] 3)).alloc (.cells #[.pointer (some ⟨ab, 0, none⟩)] 24)).alloc (.cells #[.int .i64 id] 3) := ⟨_, rfl⟩
  have hsz1 : w1.heap.size = w.heap.size + 3 := by rw [hw1]; simp [World.size_alloc]
  have hbl1 : ∀ b, b < w.heap.size → w1.heap[b]? = w.heap[b]? := fun b hb => by
    rw [hw1, Below.heap_alloc _ _ b (by simp [World.size_alloc]; omega), Below.heap_alloc _ _ b (by simp [World.size_alloc]; omega), Below.heap_alloc _ _ b hb]
  have hio1 : IO w w1 := by rw [hw1]; exact ⟨rfl, rfl, rfl⟩
  have hc0 : w1.heap[w.heap.size]? = some (.cells #[.int .i64 0] 3 (0, 0)) := by
    rw [hw1, Below.heap_alloc _ _ _ (by simp [World.size_alloc]; omega), Below.heap_alloc _ _ _ (by simp [World.size_alloc])]
    exact World.alloc_heap_new w _
  have hc1 : w1.heap[w.heap.size + 1]? = some (.cells #[.pointer (some ⟨ab, 0, none⟩)] 24 (0, 0)) := by
    rw [hw1, Below.heap_alloc _ _ _ (by simp [World.size_alloc])]
    have := World.alloc_heap_new (w.alloc (.cells #[.int .i64 0] 3)) (.cells #[.pointer (some ⟨ab, 0, none⟩)] 24)
    rwa [World.size_alloc] at this
  have hc2 : w1.heap[w.heap.size + 1 + 1]? = some (.cells #[.int .i64 id] 3 (0, 0)) := by
    rw [hw1]
    have := World.alloc_heap_new ((w.alloc (.cells #[.int .i64 0] 3)).alloc (.cells #[.pointer (some ⟨ab, 0, none⟩)] 24)) (.cells #[.int .i64 id] 3)
    rwa [World.size_alloc, World.size_alloc] at this
  have hB1 : Below w.heap.size w w1 := ⟨hio1.1, hio1.2.1, hio1.2.2, by omega, hbl1⟩
  rw [← hw1]
  have hst := hstops w1 hB1 (w.heap.size + 1) (w.heap.size + 1 + 1) (by rw [cell?_cells hc1]; rfl) (by rw [cell?_cells hc2]; rfl)
  refine wpIn_rangeFunc_ownF hro hn1 (gf := 35) (lb := #[.pointer (some ⟨w.heap.size + 1, 0, none⟩), .pointer (some ⟨w.heap.size + 1 + 1, 0, none⟩)]) rfl h35 (enters_of Tryd.func35 (by kernel_rfl) rfl)
    hst (fun h k => h.trans k) (fun W l o o' _ h ho _ => Kp.put W l o o' h ho) (Below.refl _ _) (fun _ => rfl)
    (fun pre W => W.heap[w.heap.size]? = some (.cells #[.int .i64 (sumW pre)] 3 (0, 0)) ∧ Grown w W ∧ w1.heap.size ≤ W.heap.size)
    (fun _ _ _ => False)
    (fun s A B row hs hg hr => ⟨(hg.block _ (by have := hs.2.2; omega) (fun e => by have := (hr _ e.symm).1; omega)).trans hs.1, hs.2.1.by hg (fun r e => by have := (hr r e).1; omega), Nat.le_trans hs.2.2 hg.size⟩)
    (fun _ _ _ _ _ hs _ _ => hs)
    ⟨hc0, ⟨by omega, hbl1, hio1⟩, Nat.le_refl _⟩
    (fun x => { tmps := #[.pointer (some ⟨ab, 0, none⟩), .int .i64 id, undef, undef, .int .i64 0, .pointer (some ⟨w.heap.size, 0, none⟩), undef, .int .i64 x.2, .pointer (some ⟨ab, 0, none⟩), .int .i64 id, .func (.func 35) #[] #[.pointer (some ⟨w.heap.size + 1, 0, none⟩), .pointer (some ⟨w.heap.size + 1 + 1, 0, none⟩)], .int .i64 x.1, .int .i64 x.2, undef, undef, undef, undef], defers := [] }) ?assign ?body ?done ?stop
  case assign =>
    intro l x W K hK
    gi_wp2_with (rw [Oper.semAt_eq _ _ _ (fun c h => by cases h)]; go_simp; try go_bits)
    exact hK
  case body =>
    rintro l pre x W ⟨hc, hg, hs⟩ _
    have hcell : W.cell? ⟨w.heap.size, 0, none⟩ = some (.int .i64 (sumW pre)) := by rw [cell?_cells hc]; rfl
    have hfr : W.frozen? ⟨w.heap.size, 0, none⟩ = false := frozen_no hc
    gi_wp2_with (rw [Oper.semAt_eq _ _ _ (fun c h => by cases h)]; go_simp; try go_bits)
    have hss : (W.setCell ⟨w.heap.size, 0, none⟩ (.int .i64 (wrap64 (sumW pre + x.2)))).heap.size = W.heap.size := by simp [World.setCell]
    refine ⟨KeepsOthers.setCell _ _ _, ⟨by rw [hss]; exact Nat.le_refl _, fun b hb _ => heap_setCell_other W ⟨w.heap.size, 0, none⟩ b _ (show b ≠ w.heap.size by omega)⟩, ?_, hg.by (row := some w.heap.size) ⟨rfl, rfl, rfl, by rw [hss]; exact Nat.le_refl _, fun k _ hk => heap_setCell_other W ⟨w.heap.size, 0, none⟩ k _ (fun e => hk (congrArg some e))⟩ (fun r e => by cases e; exact Nat.le_refl _), by rw [hss]; exact hs⟩
    rw [sumW_snoc]
    exact heap_setCell_same W _ 0 _ 3 _ hc
  case done =>
    rintro D xs W hD rfl ⟨hc, hg, hs⟩ hK
    have hcell : W.cell? ⟨w.heap.size, 0, none⟩ = some (.int .i64 (sumW (blocksOf ps id))) := by rw [cell?_cells hc]; rfl
    gi_wp2
    refine ⟨by simp, .inl ⟨_, _, rfl, run_takeDeferred hK, ?_⟩⟩
    exact ⟨_, results_tmp rfl _ _ _, rfl, hg.by (grownBy_putObj' _ D (.deferred none)) (fun r e => by cases e; omega)⟩
  case stop =>
    rintro D c pre W _ _ h _
    exact h.elim

end Go.Proofs.LxArena

/-
  ArenaScrubs, walked from its range over a part's blocks on.
-/
namespace Go.Proofs.LxArena
open Go Go.Eng Go.RowKit Go.Lib Go.Sort Go.Proofs Go.Shelf

section
variable {F : Fence} {n : Nat} {P : Program} {ops : Array Oper} {Q : Exit → Act → World → Prop} {rest : List Nat} {a : Act} {w w' : World} {i : Nat} {o : Oper} {v : Value}

theorem opIn_val (ho : ops[i]? = some o) (hg : o.guard = none) (hab : o.about P w a.eval = none) (hd : ∀ c, o.op ≠ .defer c) (hrun : (execOp a.eval o).run P w = .ok (.value v) w') (h : wpOpsIn F n P ops Q rest (a.put o.dst v) w') : wpOpsIn F n P ops Q (i :: rest) a w := by
  unfold wpOpsIn
  rw [ho]
  simp only [Region.wanted, hg, if_true]
  refine ⟨fun f hf => (by rw [hab] at hf; cases hf), ?_⟩
  rw [Oper.semAt_eq _ _ _ hd, hrun, Oper.uponIn_value]
  exact h
theorem opIn_skip (ho : ops[i]? = some o) (hg : o.guard = none) (hab : o.about P w a.eval = none) (hd : ∀ c, o.op ≠ .defer c) (hrun : (execOp a.eval o).run P w = .ok .skip w') (h : wpOpsIn F n P ops Q rest (a.put o.dst undef) w') : wpOpsIn F n P ops Q (i :: rest) a w := by
  unfold wpOpsIn
  rw [ho]
  simp only [Region.wanted, hg, if_true]
  refine ⟨fun f hf => (by rw [hab] at hf; cases hf), ?_⟩
  rw [Oper.semAt_eq _ _ _ hd, hrun, Oper.uponIn_skip]
  exact h
/-- an operation that hands on what it has -/
theorem opIn_move {x : Operand} (ho : ops[i]? = some o) (hop : o.op = .move x ∨ o.op = .assign x) (hg : o.guard = none) (h : wpOpsIn F n P ops Q rest (a.put o.dst (a.eval x)) w) : wpOpsIn F n P ops Q (i :: rest) a w := by
  rcases hop with hop | hop <;>
  exact opIn_val ho hg (by simp [Oper.about, hop]) (fun c e => by rw [hop] at e; cases e) (by simp only [execOp, hop]; rfl) h
end

/-- ArenaScrubs' tail -/
noncomputable def tail6 : Code := (spineC 18 ((Tryd.f6.body).getD .skip)).2
def opsR : Code → Array Oper
  | .region _ ops _ => ops
  | _ => #[]
def partsT : Code → Array Oper × Array Oper × Array Oper × Array Oper
  | .seq (.seq r26 (.block _ (.rangeFunc _ _ (.seq r27 r28) (.block _ r29)))) _ => (opsR r26, opsR r27, opsR r28, opsR r29)
  | _ => (#[], #[], #[], #[])
noncomputable def o26 : Array Oper := (partsT tail6).1
noncomputable def o27 : Array Oper := (partsT tail6).2.1
noncomputable def o28 : Array Oper := (partsT tail6).2.2.1
noncomputable def o29 : Array Oper := (partsT tail6).2.2.2

theorem tail6_eq : tail6 = .seq (.seq (.region 26 o26 false) (.block 2 (.rangeFunc (.tmp 150) #[151, 152] (.seq (.region 27 o27 false) (.region 28 o28 false)) (.block 3 (.region 29 o29 false))))) (second tail6) := by kernel_rfl

/-- what an operation is -/
def has (ops : Array Oper) (i : Nat) (d : Option Tmp) (op : Op) : Prop := ∃ o, ops[i]? = some o ∧ o.dst = d ∧ o.op = op ∧ o.guard = none
noncomputable def opN (ops : Array Oper) (i : Nat) : Oper := (ops.toList[i]?).getD ⟨none, .move (.tmp 0), 0, "", #[], none⟩
theorem has_of {ops : Array Oper} {i : Nat} {d : Option Tmp} {op : Op} (h : ops.toList[i]? = some (opN ops i)) (h1 : (opN ops i).dst = d) (h2 : (opN ops i).op = op) (h3 : (opN ops i).guard = none) : has ops i d op := ⟨opN ops i, by rw [← Array.getElem?_toList]; exact h, h1, h2, h3⟩

theorem h26_0 : has o26 0 (some 149) (.move (.tmp 8)) := has_of (by kernel_rfl) (by kernel_rfl) (by kernel_rfl) (by kernel_rfl)
theorem h26_1 : has o26 1 (some 150) (.call ⟨.value (.func 20), #[.tmp 149, .const (.int .i64 8)], #[24, 3]⟩) := has_of (by kernel_rfl) (by kernel_rfl) (by kernel_rfl) (by kernel_rfl)
theorem h27_0 : has o27 0 (some 24) (.assign (.tmp 151)) := has_of (by kernel_rfl) (by kernel_rfl) (by kernel_rfl) (by kernel_rfl)
theorem h28_0 : has o28 0 (some 25) (.assign (.tmp 152)) := has_of (by kernel_rfl) (by kernel_rfl) (by kernel_rfl) (by kernel_rfl)
theorem h29_0 : has o29 0 (some 153) (.move (.tmp 24)) := has_of (by kernel_rfl) (by kernel_rfl) (by kernel_rfl) (by kernel_rfl)
theorem h29_1 : has o29 1 (some 154) (.move (.tmp 25)) := has_of (by kernel_rfl) (by kernel_rfl) (by kernel_rfl) (by kernel_rfl)
theorem h29_2 : has o29 2 (some 155) (.binOp .add 3 (.tmp 153) (.tmp 154) 3) := has_of (by kernel_rfl) (by kernel_rfl) (by kernel_rfl) (by kernel_rfl)
theorem h29_3 : has o29 3 none (.store 3 (.tmp 23) (.tmp 155)) := has_of (by kernel_rfl) (by kernel_rfl) (by kernel_rfl) (by kernel_rfl)
theorem s26 : o26.size = 2 := by kernel_rfl
theorem s27 : o27.size = 1 := by kernel_rfl
theorem s28 : o28.size = 1 := by kernel_rfl
theorem s29 : o29.size = 4 := by kernel_rfl

def lastW (l : List (Int × Int)) : Int := l.foldl (fun _ x => wrap64 (x.1 + x.2)) 0
theorem lastW_snoc (pre : List (Int × Int)) (x : Int × Int) : lastW (pre ++ [x]) = wrap64 (x.1 + x.2) := by simp [lastW]

theorem size_put (a : Act) (d : Option Tmp) (v : Value) : (a.put d v).tmps.size = a.tmps.size := by
  cases d <;> simp [Act.put]
theorem eval_put {a : Act} {d j : Nat} {v : Value} (h : d < a.tmps.size) : (a.put (some d) v).eval (.tmp j) = if j = d then v else a.eval (.tmp j) := by
  simp only [Act.put, Act.eval, Array.getD_eq_getD_getElem?]
  split
  · rename_i e
    subst e
    rw [Array.getElem?_setIfInBounds_self_of_lt h]
    rfl
  · rename_i e
    rw [Array.getElem?_setIfInBounds_ne (fun h => e h.symm)]

set_option maxHeartbeats 1000000 in
theorem tail_raw {F : Fence} (hro : F.round = none) (h20 : F.fn 20) (h35 : F.fn 35) {a : Act} {w : World} {ab pb : Nat} {T : TypeId} {ps : List PR}
    (hsz : a.tmps.size = 166) (hdf : a.defers = []) (h8 : a.eval (.tmp 8) = .pointer (some ⟨ab, 0, none⟩)) (h23 : a.eval (.tmp 23) = .pointer (some ⟨pb, 0, none⟩)) (hpb : w.heap[pb]? = some (.cells #[.int .i64 0] T (0, 0)))
    (hstops : ∀ W : World, Below w.heap.size w W → ∀ ca ci, W.cell? ⟨ca, 0, none⟩ = some (.pointer (some ⟨ab, 0, none⟩)) → W.cell? ⟨ci, 0, none⟩ = some (.int .i64 8) →
      SeqStopsK F 4 Tryd.prog 35 #[.pointer (some ⟨ca, 0, none⟩), .pointer (some ⟨ci, 0, none⟩)] encs2 (Kp W.heap.size) (fun xs => xs = blocksOf ps 8) (fun _ => True) 1000000 W)
    {D2 : Code} {Q : Exit → Act → World → Prop}
    (hQ : ∀ (u x : Value) (W : World) (D : Nat), w.heap.size ≤ D → W.heap[D]? = some (.deferred (some [])) → W.heap[pb]? = some (.cells #[.int .i64 (lastW (blocksOf ps 8))] T (0, 0)) →
      (∀ b, b < w.heap.size → b ≠ pb → W.heap[b]? = w.heap[b]?) → w.heap.size ≤ W.heap.size → IO w W → D2.wpIn F 5 Tryd.prog Q { ((a.put (some 149) u).put (some 150) x) with defers := [{ target := .collected D, args := #[] }] } W) :
    (Code.seq (.seq (.region 26 o26 false) (.block 2 (.rangeFunc (.tmp 150) #[151, 152] (.seq (.region 27 o27 false) (.region 28 o28 false)) (.block 3 (.region 29 o29 false))))) D2).wpIn F 5 Tryd.prog Q a w := by
  refine wpIn_seq (wpIn_seq (wpIn_region ?_))
  rw [s26]
  show wpOpsIn F 5 Tryd.prog o26 _ [0, 1] a w
  obtain ⟨o, ho, hd, hop, hg⟩ := h26_0
  refine opIn_move ho (.inl hop) hg ?_
  rw [hd, h8]
  clear ho hd hop hg o
  obtain ⟨o, ho, hd, hop, hg⟩ := h26_1
  have e149 : (a.put (some 149) (.pointer (some ⟨ab, 0, none⟩))).eval (.tmp 149) = .pointer (some ⟨ab, 0, none⟩) := by rw [eval_put (by omega), if_pos rfl]
  unfold wpOpsIn
  rw [ho]
  simp only [Region.wanted, hg, if_true]
  refine ⟨fun f hf => ?_, ?_⟩
  · have : f = 20 := by
      simp [Oper.about, hop, resolve, go_sem, Target.leads] at hf
      exact hf.symm
    rw [this]
    exact h20
  rw [Oper.semAt_eq _ _ _ (fun c e => by rw [hop] at e; cases e)]
  have hrun : (execOp (a.put (some 149) (.pointer (some ⟨ab, 0, none⟩))).eval o).run Tryd.prog w = .ok (.enter 20 #[.pointer (some ⟨ab, 0, none⟩), .int .i64 8]) w := by
    have eg := enters_of (P := Tryd.prog) Tryd.func20 (by kernel_rfl) rfl
    simp only [execOp, hop, resolve]
    simp [invoke, go_sem, eg, Act.eval]
    intro h
    omega
  rw [hrun, Oper.uponIn_enter]
  refine ⟨fun _ => by omega, (blocks_in h20 hro _ rfl 8 _).mono ?_⟩
  rintro e w' ⟨rfl, rfl⟩
  rw [hd]
  obtain ⟨w1, hw1⟩ : ∃ w1, w1 = (w.alloc (.cells #[.pointer (some ⟨ab, 0, none⟩)] 24)).alloc (.cells #[.int .i64 8] 3) := ⟨_, rfl⟩
  have hpbl : pb < w.heap.size := (Array.getElem?_eq_some_iff.1 hpb).1
  have hsz1 : w1.heap.size = w.heap.size + 2 := by rw [hw1]; simp [World.size_alloc]
  have hbl1 : ∀ b, b < w.heap.size → w1.heap[b]? = w.heap[b]? := fun b hb => by
    rw [hw1, Below.heap_alloc _ _ b (by simp [World.size_alloc]; omega), Below.heap_alloc _ _ b hb]
  have hio1 : IO w w1 := by rw [hw1]; exact ⟨rfl, rfl, rfl⟩
  have hc1 : w1.heap[w.heap.size]? = some (.cells #[.pointer (some ⟨ab, 0, none⟩)] 24 (0, 0)) := by
    rw [hw1, Below.heap_alloc _ _ _ (by simp [World.size_alloc])]
    exact World.alloc_heap_new w _
  have hc2 : w1.heap[w.heap.size + 1]? = some (.cells #[.int .i64 8] 3 (0, 0)) := by
    rw [hw1]
    have := World.alloc_heap_new (w.alloc (.cells #[.pointer (some ⟨ab, 0, none⟩)] 24)) (.cells #[.int .i64 8] 3)
    rwa [World.size_alloc] at this
  have hc0 : w1.heap[pb]? = some (.cells #[.int .i64 0] T (0, 0)) := (hbl1 pb hpbl).trans hpb
  have hB1 : Below w.heap.size w w1 := ⟨hio1.1, hio1.2.1, hio1.2.2, by omega, hbl1⟩
  rw [← hw1]
  clear ho hop hg hrun
  have hst := hstops w1 hB1 w.heap.size (w.heap.size + 1) (by rw [cell?_cells hc1]; rfl) (by rw [cell?_cells hc2]; rfl)
  obtain ⟨fv, hfv⟩ : ∃ fv, fv = Value.func (.func 35) #[] #[.pointer (some ⟨w.heap.size, 0, none⟩), .pointer (some ⟨w.heap.size + 1, 0, none⟩)] := ⟨_, rfl⟩
  rw [← hfv]
  dsimp only
  obtain ⟨a2, ha2⟩ : ∃ a2, a2 = ((a.put (some 149) (.pointer (some ⟨ab, 0, none⟩))).put (some 150) fv) := ⟨_, rfl⟩
  rw [← ha2]
  have hs2 : a2.tmps.size = 166 := by rw [ha2, size_put, size_put, hsz]
  have hd2 : a2.defers = [] := by rw [ha2]; simp [Act.put, hdf]
  have e150 : a2.eval (.tmp 150) = .func (.func 35) #[] #[.pointer (some ⟨w.heap.size, 0, none⟩), .pointer (some ⟨w.heap.size + 1, 0, none⟩)] := by rw [ha2, eval_put (by rw [size_put]; omega), if_pos rfl, hfv]
  have e23 : a2.eval (.tmp 23) = .pointer (some ⟨pb, 0, none⟩) := by rw [ha2, eval_put (by rw [size_put]; omega), if_neg (by omega), eval_put (by omega), if_neg (by omega), h23]
  show (Code.block 2 _).wpIn F 5 Tryd.prog _ a2 w1
  refine wpIn_block ?_
  refine wpIn_rangeFunc_ownF hro (by omega : 1 ≤ 5) (gf := 35) (lb := #[.pointer (some ⟨w.heap.size, 0, none⟩), .pointer (some ⟨w.heap.size + 1, 0, none⟩)]) e150 h35 (enters_of Tryd.func35 (by kernel_rfl) rfl)
    hst (fun h k => h.trans k) (fun W l o o' _ h ho _ => Kp.put W l o o' h ho) (Below.refl _ _) (fun _ => rfl)
    (fun pre W => W.heap[pb]? = some (.cells #[.int .i64 (lastW pre)] T (0, 0)) ∧ (∀ b, b < w.heap.size → b ≠ pb → W.heap[b]? = w.heap[b]?) ∧ IO w W ∧ w1.heap.size ≤ W.heap.size)
    (fun _ _ _ => False)
    (fun s A B row hs hg hr => ⟨(hg.block _ (by have := hs.2.2.2; omega) (fun e => by have := (hr _ e.symm).1; omega)).trans hs.1, fun b hb hne => (hg.block b (by have := hs.2.2.2; omega) (fun e => by have := (hr _ e.symm).1; omega)).trans (hs.2.1 b hb hne), hs.2.2.1.trans ⟨hg.os, hg.tape, hg.output⟩, Nat.le_trans hs.2.2.2 hg.size⟩)
    (fun _ _ _ _ _ hs _ _ => hs)
    ⟨hc0, fun b hb _ => hbl1 b hb, hio1, Nat.le_refl _⟩
    (fun x => { tmps := (((a2.tmps.setIfInBounds 151 (.int .i64 x.1)).setIfInBounds 152 (.int .i64 x.2)).setIfInBounds 24 (.int .i64 x.1)).setIfInBounds 25 (.int .i64 x.2), defers := [] }) ?assign ?body ?done ?stop
  case assign =>
    intro l x W K hK
    have hz : (#[151, 152] : Array Tmp).zip (encs2 x) = #[(151, .int .i64 x.1), (152, .int .i64 x.2)] := by simp [encs2]
    rw [hz]
    refine wpIn_seq (wpIn_region ?_)
    rw [s27]
    show wpOpsIn _ _ Tryd.prog o27 _ [0] _ W
    obtain ⟨o, ho, hd, hop, hg⟩ := h27_0
    refine opIn_move ho (.inr hop) hg ?_
    rw [hd]
    show (Code.region 28 o28 false).wpIn _ _ _ _ _ _
    refine wpIn_region ?_
    rw [s28]
    show wpOpsIn _ _ Tryd.prog o28 _ [0] _ W
    clear ho hd hop hg o
    obtain ⟨o, ho, hd, hop, hg⟩ := h28_0
    refine opIn_move ho (.inr hop) hg ?_
    rw [hd]
    obtain ⟨A0, hA0⟩ : ∃ A0 : Act, A0 = (((⟨a2.tmps, []⟩ : Act).put (some 151) (.int .i64 x.1)).put (some 152) (.int .i64 x.2)) := ⟨_, rfl⟩
    have hs0 : A0.tmps.size = 166 := by rw [hA0, size_put, size_put]; exact hs2
    have e151 : A0.eval (.tmp 151) = .int .i64 x.1 := by rw [hA0, eval_put (by rw [size_put]; show 152 < a2.tmps.size; omega), if_neg (by omega), eval_put (by show 151 < a2.tmps.size; omega), if_pos rfl]
    have e152 : (A0.put (some 24) (.int .i64 x.1)).eval (.tmp 152) = .int .i64 x.2 := by rw [eval_put (by omega), if_neg (by omega), hA0, eval_put (by rw [size_put]; show 152 < a2.tmps.size; omega), if_pos rfl]
    have hK' : K ((A0.put (some 24) (.int .i64 x.1)).put (some 25) (.int .i64 x.2)) W := by rw [hA0]; exact hK
    rw [← e152, ← e151] at hK'
    rw [hA0] at hK'
    exact hK'
  case body =>
    rintro l pre x W ⟨hc, hg, hio, hs⟩ _
    have hcell : W.cell? ⟨pb, 0, none⟩ = some (.int .i64 (lastW pre)) := by rw [cell?_cells hc]; rfl
    have hfr : W.frozen? ⟨pb, 0, none⟩ = false := frozen_no hc
    obtain ⟨A1, hA1⟩ : ∃ A1 : Act, A1 = (((((⟨a2.tmps, []⟩ : Act).put (some 151) (.int .i64 x.1)).put (some 152) (.int .i64 x.2)).put (some 24) (.int .i64 x.1)).put (some 25) (.int .i64 x.2)) := ⟨_, rfl⟩
    have hs1 : A1.tmps.size = 166 := by rw [hA1]; simp only [size_put]; exact hs2
    have f24 : A1.eval (.tmp 24) = .int .i64 x.1 := by
      rw [hA1, eval_put (by simp only [size_put]; show 25 < a2.tmps.size; omega), if_neg (by omega), eval_put (by simp only [size_put]; show 24 < a2.tmps.size; omega), if_pos rfl]
    have f25 : A1.eval (.tmp 25) = .int .i64 x.2 := by
      rw [hA1, eval_put (by simp only [size_put]; show 25 < a2.tmps.size; omega), if_pos rfl]
    have f23 : A1.eval (.tmp 23) = .pointer (some ⟨pb, 0, none⟩) := by
      rw [hA1]
      repeat rw [eval_put (by simp only [size_put]; show _ < a2.tmps.size; omega), if_neg (by omega)]
      exact e23
    suffices h : (Code.block 3 (.region 29 o29 false)).wpIn (F.inRound l) (5 - 1 - 1) Tryd.prog (ownPostK (Kp w1.heap.size) (fun pre W => W.heap[pb]? = some (.cells #[.int .i64 (lastW pre)] T (0, 0)) ∧ (∀ b, b < w.heap.size → b ≠ pb → W.heap[b]? = w.heap[b]?) ∧ IO w W ∧ w1.heap.size ≤ W.heap.size) (fun _ _ _ => False) (pre ++ [x]) W) A1 W by
      rw [hA1] at h; exact h
    refine wpIn_block (wpIn_region ?_)
    rw [s29]
    show wpOpsIn _ _ Tryd.prog o29 _ [0, 1, 2, 3] A1 W
    obtain ⟨o, ho, hd, hop, hg0⟩ := h29_0
    refine opIn_move ho (.inl hop) hg0 ?_
    rw [hd, f24]
    clear ho hd hop hg0 o
    obtain ⟨o, ho, hd, hop, hg0⟩ := h29_1
    refine opIn_move ho (.inl hop) hg0 ?_
    rw [hd, eval_put (by omega), if_neg (by omega), f25]
    clear ho hd hop hg0 o
    obtain ⟨A3, hA3⟩ : ∃ A3 : Act, A3 = ((A1.put (some 153) (.int .i64 x.1)).put (some 154) (.int .i64 x.2)) := ⟨_, rfl⟩
    have hs3 : A3.tmps.size = 166 := by rw [hA3, size_put, size_put]; exact hs1
    have f153 : A3.eval (.tmp 153) = .int .i64 x.1 := by rw [hA3, eval_put (by rw [size_put]; omega), if_neg (by omega), eval_put (by omega), if_pos rfl]
    have f154 : A3.eval (.tmp 154) = .int .i64 x.2 := by rw [hA3, eval_put (by rw [size_put]; omega), if_pos rfl]
    have g23 : A3.eval (.tmp 23) = .pointer (some ⟨pb, 0, none⟩) := by rw [hA3, eval_put (by rw [size_put]; omega), if_neg (by omega), eval_put (by omega), if_neg (by omega), f23]
    rw [← hA3]
    obtain ⟨o, ho, hd, hop, hg0⟩ := h29_2
    refine opIn_val (v := .int .i64 (wrap64 (x.1 + x.2))) (w' := W) ho hg0 (by simp [Oper.about, hop]) (fun c e => by rw [hop] at e; cases e) ?_ ?_
    · simp only [execOp, hop]
      rw [f153, f154]
      go_simp
      exact (IntKind.wrap_i64 _).trans (by unfold wrap64; rfl)
    rw [hd]
    clear ho hd hop hg0 o
    obtain ⟨o, ho, hd, hop, hg0⟩ := h29_3
    have f155 : (A3.put (some 155) (.int .i64 (wrap64 (x.1 + x.2)))).eval (.tmp 155) = .int .i64 (wrap64 (x.1 + x.2)) := by rw [eval_put (by omega), if_pos rfl]
    have f23' : (A3.put (some 155) (.int .i64 (wrap64 (x.1 + x.2)))).eval (.tmp 23) = .pointer (some ⟨pb, 0, none⟩) := by rw [eval_put (by omega), if_neg (by omega), g23]
    refine opIn_skip (w' := W.setCell ⟨pb, 0, none⟩ (.int .i64 (wrap64 (x.1 + x.2)))) ho hg0 (by simp [Oper.about, hop]) (fun c e => by rw [hop] at e; cases e) ?_ ?_
    · simp only [execOp, hop]
      rw [f155, f23']
      go_simp
    unfold wpOpsIn
    dsimp only [Exit.inBlock, ownPostK]
    have hss : (W.setCell ⟨pb, 0, none⟩ (.int .i64 (wrap64 (x.1 + x.2)))).heap.size = W.heap.size := by simp [World.setCell]
    refine ⟨KeepsOthers.setCell _ _ _, ⟨by rw [hss]; exact Nat.le_refl _, fun b hb _ => heap_setCell_other W ⟨pb, 0, none⟩ b _ (show b ≠ pb by omega)⟩, ?_, fun b hb hne => (heap_setCell_other W ⟨pb, 0, none⟩ b _ hne).trans (hg b hb hne), hio.trans ⟨rfl, rfl, rfl⟩, by rw [hss]; exact hs⟩
    rw [lastW_snoc]
    exact heap_setCell_same W _ 0 _ T _ hc
  case done =>
    rintro D xs W hD rfl ⟨hc, hg, hio, hs⟩ hK
    have := hQ (.pointer (some ⟨ab, 0, none⟩)) fv W D (by omega) hK hc hg (by omega) hio
    rw [← ha2] at this
    show D2.wpIn F 5 Tryd.prog Q _ W
    rw [hd2]
    exact this
  case stop =>
    rintro D c pre W _ _ h _
    exact h.elim

end Go.Proofs.LxArena

/-
  Objects as they lie.
-/
namespace Go.Eng
open Go

section
variable {c : Ctx} {I : Nat → Prop} {L : Ref → Option Pl} {s : St} {a : Act} {w : World}

def gs0 (cs : List Cell) : List Nat := List.replicate ((ownQs cs 1).length + 1) 0

/-- an object's variable, as it lies -/
theorem obj_at (h : Sim c I L s a w) {k i : Nat} {cs : List Cell} {T : List (Val (rowsTy cs))} (hs : s.heap[k]? = some (some (tabB cs T))) (hi : i < T.length) :
    ∃ p, L (.o k i 0) = some p ∧ ∃ cells Tt, w.heap[p.b]? = some (.cells cells Tt (0, 0)) ∧ RepL (c.rc I L w) L (rowO k i (fun _ => false) (gs0 cs) cs 1 (T.getD i (dfl (rowsTy cs)))) cells.toList := by
  have hr : rdv s.heap (.o k i 0) = some { ct := .box (rowO k i (fun _ => false) (gs0 cs) cs 1 (T.getD i (dfl (rowsTy cs)))), gen := 0, frozen := false } := by
    simp only [rdv, hs, tabB, if_pos hi, viewV]
    simp [gs0]
  obtain ⟨p, hp, ⟨_, hk⟩, _⟩ := h.blk _ _ hr
  obtain ⟨_, _, cells, Tt, hh, hrep⟩ := hk
  exact ⟨p, hp, cells, Tt, hh, hrep⟩

/-- a slice of an object's own, as it lies -/
theorem slice_at (h : Sim c I L s a w) {k i q : Nat} {cs : List Cell} {T : List (Val (rowsTy cs))} (hs : s.heap[k]? = some (some (tabB cs T))) (hi : i < T.length) {t : Ty} {y : List (Val t)} (hq : slO (q + 1) cs 1 (T.getD i (dfl (rowsTy cs))) = some ⟨t, y⟩)
    {v : Value} (hv : Rep (c.rc I L w) L (.lsl t (.o k i (q + 1)) 0 y.length ((gs0 cs).getD (q + 1) 0)) v) :
    ∃ ad cap, v = .slice ad y.length cap ∧ y.length ≤ cap ∧ (y.length ≠ 0 → ∃ bb bo, ad = some ⟨bb, bo, none⟩ ∧ ∀ j, j < y.length → ∃ d, RepT (c.rc I L w) t (y.getD j (dfl t)) d ∧ At (c.rc I L w) d bb (bo + j * t.size)) := by
  have hr : rdv s.heap (.o k i (q + 1)) = some { ct := .sl t y, gen := (gs0 cs).getD (q + 1) 0, frozen := false } := by
    simp only [rdv, hs, tabB, if_pos hi, viewV, hq]
    simp [gs0]
  obtain ⟨p, hp, ⟨hg, hk⟩, _⟩ := h.blk _ _ hr
  simp only [Rep] at hv
  obtain ⟨p', hp', hw, _, ad, cap, rfl, hcap, hsome, hpl⟩ := hv
  rw [hp] at hp'
  injection hp' with hp'
  subst hp'
  refine ⟨ad, cap, rfl, hcap, fun hn => ?_⟩
  rcases hpl hg with h0 | ⟨hvt, had, _⟩
  · omega
  · refine ⟨p.b, p.o + 0 * p.w, had, fun j hj => ?_⟩
    rcases hk with ⟨hvt', _⟩ | ⟨_, hpw, cells, Tt, _, _, _, hi'⟩
    · rw [hvt] at hvt'; cases hvt'
    · obtain ⟨d, hd, hat⟩ := hi' j hj
      refine ⟨d, hd, ?_⟩
      rw [Nat.zero_mul, Nat.add_zero, ← hpw]
      exact hat

/-- a handle's object -/
theorem hd_at {k : Nat} {x : Option Nat} {v : Value} (hv : Rep (c.rc I L w) L (.hd k x) v) : match x with
    | none => v = .pointer none
    | some i => ∃ p, L (.o k i 0) = some p ∧ v = .pointer (some ⟨p.b, 0, none⟩) := by
  simp only [Rep, RepT] at hv
  cases x with
  | none => simpa using hv
  | some i =>
    obtain ⟨b, hb, e⟩ := hv
    have hb : (L (.o k i 0)).map (·.b) = some b := hb
    obtain ⟨p, hp, rfl⟩ := Option.map_eq_some_iff.1 hb
    exact ⟨p, hp, by simpa using e⟩

end
end Go.Eng

namespace Go.Proofs.YtnbpgehpjhifgaaDoor.Lx
open Go Go.Eng Go.Proofs Go.Proofs.LxArena

abbrev K0 : List Cell := [.sl (.int .u8), .sl (.hd 1)]
abbrev K1 : List Cell := [.d (.int .i64), .d (.int .i64), .d (.int .i64), .sl (.st (.pair (.int .i64) (.int .i64)))]
abbrev R0 := List Int × (List (Option Nat) × Unit)
abbrev R1 := Int × (Int × (Int × (List (Int × Int) × Unit)))




section
variable {c : Ctx} {I : Nat → Prop} {L : Ref → Option Pl} {s : St} {a : Act} {w : World}

def z0 : R0 := ([], ([], ()))
def z1 : R1 := (0, (0, (0, ([], ()))))
def prOf (L : Ref → Option Pl) (T1 : List R1) (i : Nat) : PR := ⟨((L (.o 1 i 0)).map (·.b)).getD 0, (T1.getD i z1).1, (T1.getD i z1).2.1, (T1.getD i z1).2.2.1, (T1.getD i z1).2.2.2.1⟩

theorem flat_cells {R : RC} {b o : Nat} {W : World} (hC : ∀ b o, R.C b o = W.cell? ⟨b, o, none⟩) (l : List (Int × Int)) (h : ∀ j, j < l.length → ∃ d, RepT R (.st (.pair (.int .i64) (.int .i64))) (l.getD j (dfl (.st (.pair (.int .i64) (.int .i64))))) d ∧ At R d b (o + j * 2)) : CellsAt W b o (blkCells l) := by
  intro j v hj
  have hlt := (List.getElem?_eq_some_iff.1 hj).1
  rw [blk_length] at hlt
  obtain ⟨d, hd, hat⟩ := h (j / 2) (by omega)
  have hg : l.getD (j / 2) (dfl (.st (.pair (.int .i64) (.int .i64)))) = l[j / 2]'(by omega) := by
    rw [List.getD_eq_getElem?_getD, List.getElem?_eq_getElem (by omega)]; rfl
  rw [hg] at hd
  simp only [RepT] at hd
  obtain ⟨c1, d1, rfl, rfl, rfl⟩ := hd
  obtain ⟨h1, h2⟩ := blk_at l (j / 2) (by omega)
  rcases Nat.mod_two_eq_zero_or_one j with hm | hm
  · have e : j = 2 * (j / 2) := by omega
    rw [e, h1] at hj
    injection hj with hj
    have := hat 0 _ rfl
    rw [hC] at this
    rw [← hj, ← this]
    congr 2
    omega
  · have e : j = 2 * (j / 2) + 1 := by omega
    rw [e, h2] at hj
    injection hj with hj
    have := hat 1 _ rfl
    rw [hC] at this
    rw [← hj, ← this]
    congr 2
    omega

theorem part_at (h : Sim c I L s a w) {T1 : List R1} (hs : s.heap[1]? = some (some (tabB K1 T1))) {i : Nat} (hi : i < T1.length) : (∃ p, L (.o 1 i 0) = some p ∧ p.b = (prOf L T1 i).b) ∧ PartAt w (prOf L T1 i) := by
  obtain ⟨p, hp, cells, Tt, hh, hrep⟩ := obj_at h (k := 1) (i := i) hs hi
  have hb : (prOf L T1 i).b = p.b := by simp [prOf, hp]
  refine ⟨⟨p, hp, hb.symm⟩, ?_⟩
  obtain ⟨r, hr⟩ : ∃ r : R1, r = T1.getD i z1 := ⟨_, rfl⟩
  have hr' : (List.getD T1 i (dfl (rowsTy K1)) : R1) = r := hr.symm
  have hsl : slO 1 K1 1 (List.getD T1 i (dfl (rowsTy K1))) = some ⟨.st (.pair (.int .i64) (.int .i64)), r.2.2.2.1⟩ := by rw [← hr']; rfl
  have hrow : rowO 1 i (fun _ => false) (gs0 K1) K1 1 (List.getD T1 i (dfl (rowsTy K1))) = [.v (.int .i64 r.1), .v (.int .i64 r.2.1), .v (.int .i64 r.2.2.1), .lsl (.st (.pair (.int .i64) (.int .i64))) (.o 1 i 1) 0 r.2.2.2.1.length ((gs0 K1).getD 1 0)] := by rw [← hr']; rfl
  rw [hrow] at hrep
  simp only [RepL] at hrep
  obtain ⟨v0, t0, e0, hv0, v1, t1, rfl, hv1, v2, t2, rfl, hv2, v3, t3, rfl, hv3, rfl⟩ := hrep
  simp only [Rep] at hv0 hv1 hv2
  subst hv0; subst hv1; subst hv2
  obtain ⟨ad, cap, rfl, hcap, hcell⟩ := slice_at h (k := 1) (i := i) (q := 0) hs hi hsl hv3
  have hpr : prOf L T1 i = ⟨p.b, r.1, r.2.1, r.2.2.1, r.2.2.2.1⟩ := by
    unfold prOf
    rw [hp, ← hr]
    rfl
  rw [hpr]
  refine ⟨ad, cap, fun j v hj => ?_, hcap, fun hn => ?_⟩
  · rw [Nat.zero_add, cell?_cells hh, ← Array.getElem?_toList, e0]
    exact hj
  · obtain ⟨bb, bo, e, hc⟩ := hcell hn
    exact ⟨bb, bo, e, flat_cells (fun _ _ => rfl) _ hc⟩

theorem arena_at (h : Sim c I L s a w) {T0 : List R0} {T1 : List R1} (hs0 : s.heap[0]? = some (some (tabB K0 T0))) (hs1 : s.heap[1]? = some (some (tabB K1 T1))) {i : Nat} (hi : i < T0.length)
    (hall : ∀ x, x ∈ (T0.getD i z0).2.1 → ∃ j, x = some j ∧ j < T1.length) {p : Pl} (hp : L (.o 0 i 0) = some p) : ArenaAt w p.b ((T0.getD i z0).2.1.map fun x => prOf L T1 (x.getD 0)) := by
  obtain ⟨p', hp', cells, Tt, hh, hrep⟩ := obj_at h (k := 0) (i := i) hs0 hi
  rw [hp] at hp'
  injection hp' with hp'
  subst hp'
  obtain ⟨r, hr⟩ : ∃ r : R0, r = T0.getD i z0 := ⟨_, rfl⟩
  have hr' : (List.getD T0 i (dfl (rowsTy K0)) : R0) = r := hr.symm
  have hsl : slO 2 K0 1 (List.getD T0 i (dfl (rowsTy K0))) = some ⟨.hd 1, r.2.1⟩ := by rw [← hr']; rfl
  have hrow : rowO 0 i (fun _ => false) (gs0 K0) K0 1 (List.getD T0 i (dfl (rowsTy K0))) = [.lsl (.int .u8) (.o 0 i 1) 0 r.1.length ((gs0 K0).getD 1 0), .lsl (.hd 1) (.o 0 i 2) 0 r.2.1.length ((gs0 K0).getD 2 0)] := by rw [← hr']; rfl
  rw [hrow] at hrep
  rw [← hr] at hall ⊢
  simp only [RepL] at hrep
  obtain ⟨v0, t0, e0, hv0, v1, t1, rfl, hv1, rfl⟩ := hrep
  obtain ⟨ad, cap, rfl, hcap, hcell⟩ := slice_at h (k := 0) (i := i) (q := 1) hs0 hi hsl hv1
  refine ⟨ad, cap, ?_, by rw [List.length_map]; exact hcap, fun hn => ?_, fun q hq => ?_⟩
  · rw [cell?_cells hh, ← Array.getElem?_toList, e0, List.length_map]
    rfl
  · rw [List.length_map] at hn
    obtain ⟨bb, bo, e, hc⟩ := hcell hn
    refine ⟨bb, bo, e, fun j v hj => ?_⟩
    rw [List.getElem?_map, List.getElem?_map] at hj
    obtain ⟨q, hq, rfl⟩ := Option.map_eq_some_iff.1 hj
    obtain ⟨x, hx, rfl⟩ := Option.map_eq_some_iff.1 hq
    have hjl := (List.getElem?_eq_some_iff.1 hx).1
    obtain ⟨k, rfl, hk⟩ := hall x (List.mem_of_getElem? hx)
    obtain ⟨⟨pk, hpk, hpb⟩, _⟩ := part_at h hs1 hk
    obtain ⟨d, hd, hat⟩ := hc j hjl
    have hg : List.getD r.2.1 j (dfl (.hd 1)) = some k := by
      rw [List.getD_eq_getElem?_getD]
      show (r.2.1[j]?).getD _ = _
      rw [hx]
      rfl
    rw [hg] at hd
    obtain ⟨b, hb, rfl⟩ := hd
    have hb : (L (.o 1 k 0)).map (·.b) = some b := hb
    rw [hpk] at hb
    injection hb with hb
    have := hat 0 _ rfl
    simp only [Ty.size, Nat.mul_one, Nat.add_zero] at this
    show w.cell? _ = some (.pointer (some ⟨(prOf L T1 k).b, 0, none⟩))
    have hb : pk.b = b := hb
    rw [← hpb, hb]
    exact this
  · obtain ⟨x, hx, rfl⟩ := List.mem_map.1 hq
    obtain ⟨k, rfl, hk⟩ := hall x hx
    exact (part_at h hs1 hk).2

end



/-- the parts' rows -/
def rowsAt (T1 : List R1) (hs : List (Option Nat)) : List R1 := hs.map fun x => T1.getD (x.getD 0) z1
/-- what the last of a part's blocks says -/
def leftOf (T1 : List R1) (hs : List (Option Nat)) (id : Int) : Int := match (rowsAt T1 hs).find? (fun r => decide (r.1 = id)) with
  | some r => lastW r.2.2.2.1
  | none => 0

/-- is all well with them? -/
def handlesOK (T1 : List R1) (hs : List (Option Nat)) : Bool := decide (hs.length ≤ 1000000) && hs.all fun x => match x with
  | some j => decide (j < T1.length) && decide ((T1.getD j z1).2.2.2.1.length ≤ 1000000)
  | none => false

theorem last_prs (L : Ref → Option Pl) (T1 : List R1) (id : Int) : ∀ hs : List (Option Nat), lastW (blocksOf (hs.map fun x => prOf L T1 (x.getD 0)) id) = leftOf T1 hs id := by
  intro hs
  unfold blocksOf leftOf rowsAt
  induction hs with
  | nil => rfl
  | cons x r ih =>
    rw [List.map_cons, List.map_cons, List.find?_cons, List.find?_cons]
    by_cases e : (T1.getD (x.getD 0) z1).1 = id
    · have e' : (prOf L T1 (x.getD 0)).id = id := e
      simp only [e, e', decide_true]
      rfl
    · have e' : ¬ (prOf L T1 (x.getD 0)).id = id := e
      simp only [e, e', decide_false]
      exact ih

end Go.Proofs.YtnbpgehpjhifgaaDoor.Lx

/-
  The abstract machine, part 30: a context begun anew; a mark that is taken; a function that ends with marks.
-/
namespace Go.Eng

section
variable {c : Ctx} {I : Nat → Prop} {L : Ref → Option Pl} {s : St} {a : Act} {w : World}

def RtOf (L : Ref → Option Pl) (b : Nat) : Prop := ∃ r p, L r = some p ∧ p.virt = false ∧ p.b = b
def BOf (L : Ref → Option Pl) (k i : Nat) : Option Pl := L (.o k i 0)

/-- from here on, as if it began here -/
theorem Sim.rebase (h : Sim c I L s a w) : Sim ⟨c.P, c.E, c.S, w, I, RtOf L, BOf L, c.D⟩ I L s a w where
  env := h.env
  defers := h.defers
  blk := h.blk
  dom := h.dom
  own := fun r p hp hv => ⟨.inr ⟨r, p, hp, hv, rfl⟩, (h.own r p hp hv).2⟩
  inj := h.inj
  imm := h.imm
  i0 := fun b hb => hb
  iN := fun b hb => .inl hb
  same := fun b _ _ => rfl
  fix := fun b hb => ⟨Nat.lt_of_lt_of_le (h.fix b hb).1 h.grow, fun ⟨r, p, hp, hv, e⟩ => by
    have h1 := (h.own r p hp hv).1
    have h2 := h.fix b hb
    rw [e] at h1
    rcases h1 with h1 | h1
    · omega
    · exact h2.2 h1⟩
  bx := fun _ _ _ h => h
  grow := Nat.le_refl _
  io := .refl _

/-- and back -/
theorem Sim.unbase (h : Sim c I L s a w) {Ds : List Deferred} {I' : Nat → Prop} {L' : Ref → Option Pl} {s' : St} {a' : Act} {w' : World} (h' : Sim ⟨c.P, c.E, c.S, w, I, RtOf L, BOf L, Ds⟩ I' L' s' a' w') : Sim ⟨c.P, c.E, c.S, c.w0, c.I0, c.Rt, c.B, Ds⟩ I' L' s' a' w' where
  env := h'.env
  defers := h'.defers
  blk := h'.blk
  dom := h'.dom
  own := fun r p hp hv => by
    obtain ⟨h1, h2⟩ := h'.own r p hp hv
    refine ⟨?_, h2⟩
    rcases h1 with h1 | ⟨r', p', hp', hv', e⟩
    · exact .inl (Nat.le_trans h.grow h1)
    · rw [← e]
      exact (h.own r' p' hp' hv').1
  inj := h'.inj
  imm := h'.imm
  i0 := fun b hb => h'.i0 b (h.i0 b hb)
  iN := fun b hb => by
    rcases h'.iN b hb with h1 | h1 | ⟨r', p', hp', hv', e⟩
    · exact h.iN b h1
    · exact .inr (.inl (Nat.le_trans h.grow h1))
    · rw [← e]
      exact .inr (h.own r' p' hp' hv').1
  same := fun b hb hn => by
    refine (h'.same b (Nat.lt_of_lt_of_le hb h.grow) fun ⟨r', p', hp', hv', e⟩ => ?_).trans (h.same b hb hn)
    rcases (h.own r' p' hp' hv').1 with h1 | h1
    · rw [e] at h1
      have hb : b < c.w0.heap.size := hb
      omega
    · rw [e] at h1
      exact hn h1
  fix := h.fix
  bx := fun k i p hp => h'.bx k i p (h.bx k i p hp)
  grow := Nat.le_trans h.grow h'.grow
  io := h.io.trans h'.io

/-- what is put off may be told as one likes -/
theorem Sim.off (h : Sim c I L s a w) (Ds : List Deferred) : Sim ⟨c.P, c.E, c.S, c.w0, c.I0, c.Rt, c.B, Ds⟩ I L s { a with defers := Ds } w :=
  ⟨h.env, rfl, h.blk, h.dom, h.own, h.inj, h.imm, h.i0, h.iN, h.same, h.fix, h.bx, h.grow, h.io⟩

/-- a block that holds no cells is no block of the state's -/
theorem Sim.no_cells (h : Sim c I L s a w) {D : Nat} {o : Obj} (hD : w.heap[D]? = some o) (ho : ∀ cs T fz, o ≠ .cells cs T fz) : ¬ RtOf L D := by
  rintro ⟨r, p, hp, hv, e⟩
  obtain ⟨b, hb⟩ := h.dom r p hp
  obtain ⟨p', hp', ⟨_, hk⟩, _⟩ := h.blk r b hb
  rw [hp] at hp'
  injection hp' with hp'
  subst hp'
  have key : ∀ cs T fz, w.heap[p.b]? ≠ some (.cells cs T fz) := fun cs T fz e' => by
    rw [e, hD] at e'
    injection e' with e'
    exact ho _ _ _ e'
  cases hct : b.ct with
  | box row => rw [hct] at hk; obtain ⟨_, _, cs, T, hh, _⟩ := hk; exact key _ _ _ hh
  | tab cs l st gs => rw [hct] at hk; have hk : p.virt = true := hk; rw [hv] at hk; cases hk
  | sl t l =>
    rw [hct] at hk
    rcases hk with ⟨h1, _⟩ | ⟨_, _, cs, T, hh, _⟩
    · rw [hv] at h1; cases h1
    · exact key _ _ _ hh

/-- such a block may turn -/
theorem Sim.turned (h : Sim c I L s a w) {D : Nat} {o : Obj} (hD : w.heap[D]? = some o) (ho : ∀ cs T fz, o ≠ .cells cs T fz) (hI : ¬ I D) (hw0 : c.w0.heap.size ≤ D) {w' : World} (hs : w.heap.size ≤ w'.heap.size) (hio : IO w w') (hw : ∀ b, b ≠ D → w'.heap[b]? = w.heap[b]?) : Sim c I L s a w' := by
  have hr : RLe (c.rc I L w) (c.rc I L w') := rle_of_heap (fun _ h => h) (fun b hb => hw b (fun e => hI (e ▸ hb))) (LLe.refl L)
  have hne : ∀ r p, L r = some p → p.virt = false → p.b ≠ D := fun r p hp hv e => h.no_cells hD ho ⟨r, p, hp, hv, e⟩
  refine ⟨h.env.mono hr (LLe.refl L), h.defers, ?_, h.dom, fun r p hp hv => ⟨(h.own r p hp hv).1, Nat.lt_of_lt_of_le (h.own r p hp hv).2 hs⟩, h.inj, fun b hb => Nat.lt_of_lt_of_le (h.imm b hb) hs, h.i0, h.iN, fun b hb hn => (hw b (by omega)).trans (h.same b hb hn), h.fix, h.bx, Nat.le_trans h.grow hs, h.io.trans hio⟩
  intro r b hb
  obtain ⟨p, hp, hk, hf⟩ := h.blk r b hb
  exact ⟨p, hp, hk.mono hr (LLe.refl L) (fun hv => hw _ (hne r p hp hv)) (fun hv o => cell?_heap _ _ (hw _ (hne r p hp hv))), hf⟩

/-- a box that holds another number -/
theorem Sim.boxNum (h : Sim c I L s a w) {id : Nat} {p : Pl} {b : Blk} {v v' : Int} {T : TypeId} (hp : L (.l id) = some p) (hb : s.heap[id]? = some (some b)) (hct : b.ct = .box [.v (.int .i64 v)]) (hz : b.frozen = false) {w' : World} (hs : w.heap.size ≤ w'.heap.size) (hio : IO w w')
    (hw' : w'.heap[p.b]? = some (.cells #[.int .i64 v'] T (0, 0))) (hw : ∀ k, k < w.heap.size → k ≠ p.b → w'.heap[k]? = w.heap[k]?) : ∃ L', Sim c I L' ⟨s.env, s.heap.set id (some { b with ct := .box [.v (.int .i64 v')] })⟩ a w' := by
  have hb' : rdv s.heap (.l id) = some b := rdv_l.2 hb
  obtain ⟨p', hp', ⟨hpg, hk⟩, hf⟩ := h.blk _ _ hb'
  rw [hp] at hp'
  injection hp' with hp'
  subst hp'
  rw [hct] at hk
  obtain ⟨hv, hpo, cells, T0, hh, hrow⟩ := hk
  refine ⟨addL L (.l id) p, h.upd (List.getElem?_eq_some_iff.1 hb).1 (fun x hx => by rw [hb] at hx; injection hx with hx; injection hx with hx; subst hx; simp [Blk.isTab, hct]) rfl (fun q hq => by rw [hp] at hq; injection hq with hq; exact ⟨by rw [hq], .inl hq⟩) (fun _ => ⟨Nat.lt_of_lt_of_le (h.own _ p hp hv).2 hs, .inr ⟨p, hp, hv, rfl⟩⟩) hs hio ?_ ?_ (fun _ _ => hf hz hv)⟩
  · intro k hk hkI
    by_cases e : k = p.b
    · exact absurd (hkI p hp hv e) (by rw [e]; exact hf hz hv)
    · exact hw k hk e
  · intro _ _
    refine ⟨hpg, hv, hpo, _, T, hw', ?_⟩
    simp [RepL, Rep]

end

section
variable {P : Program} {E : Env} {S : Ini}

/-- what a function hands out -/
theorem fin_sound (hE : EnvOK P E) {call : CallF} {f : FuncId} {fi : FnI} {fn : Func} (hres : fi.results = fn.results.toList) {w : World} {I : Nat → Prop} {Rt : Nat → Prop} {B : Nat → Nat → Option Pl} (hW : WOK P E S w) {b0 : Nat} (hb0 : E.kinds.length ≤ b0)
    {I' : Nat → Prop} {L' : Ref → Option Pl} {t : St} {a' : Act} {w' : World} (h' : Sim ⟨P, E, S, w, I, Rt, B, []⟩ I' L' t a' w') {rs : List Slot} {y : StV E (E.ks f) rs} {us : List Nat} (e' : (finA E (E.ks f) fi rs t).run call t.rd = some (y, us)) :
    ∃ v, (results fn a'.tmps).run P w' = .ok v w' ∧ ∃ I' L', Sim ⟨P, E, S, w, I, Rt, B, []⟩ I' L' ⟨[packA (encEnv rs b0 y.2)], outH E (E.ks f) (encTabs E.kinds (E.ks f) y.1) b0 (encHeap rs b0 y.2)⟩ { tmps := #[v], defers := [] } w' := by
  unfold finA at e'
  obtain ⟨l, q1, q2, hl, eq, rfl⟩ := HM.run_bind e'
  obtain ⟨us, hrun, hrep⟩ := resA_sound h' hE hW hl
  have h2 : Sim ⟨P, E, S, w, I, Rt, B, []⟩ I' L' ⟨l, t.heap⟩ { tmps := us.toArray, defers := [] } w' :=
    ⟨hrep, rfl, h'.blk, h'.dom, h'.own, h'.inj, h'.imm, h'.i0, h'.iN, h'.same, h'.fix, h'.bx, h'.grow, h'.io⟩
  obtain ⟨hnd, hlt⟩ := hE.ks f
  obtain ⟨I2, L2, h3⟩ := dec_sim h2 hb0 hnd hlt eq
  have hmap : (fn.results.mapM (resOne a'.tmps)).run P w' = .ok us.toArray w' := by
    have h0 := hrun
    rw [hres] at h0
    rw [Array.mapM_eq_mapM_toList, Sem.run_map, h0]
    rfl
  refine ⟨if h : us.toArray.size = 1 then us.toArray[0] else .tuple us.toArray, ?_, I2, L2, ?_, rfl, h3.blk, h3.dom, h3.own, h3.inj, h3.imm, h3.i0, h3.iN, h3.same, h3.fix, h3.bx, h3.grow, h3.io⟩
  · rw [results_eq]
    simp only [Sem.run_bind, hmap, Result.andThen_ok, Sem.run_pure]
  · have hrep3 := h3.env
    simp only [encAt] at hrep3
    generalize encEnv rs b0 y.2 = l' at hrep3
    simp only [RepL]
    refine ⟨_, [], rfl, ?_, rfl⟩
    cases l' with
    | nil =>
      simp only [RepL] at hrep3
      have hrep3 : us = [] := hrep3
      subst hrep3
      simp [packA, Rep, RepL]
    | cons y tl =>
      cases tl with
      | nil =>
        simp only [RepL] at hrep3
        obtain ⟨u, t0, hu0, hu, rfl⟩ := hrep3
        have hu0 : us = [u] := hu0
        subst hu0
        exact hu
      | cons z tl =>
        have hl2 := hrep3.length
        have : us.toArray.size ≠ 1 := by simp at hl2 ⊢; omega
        simp only [packA, Rep, dif_neg this]
        exact ⟨us.toArray, rfl, hrep3⟩

/-- how a call may end -/
def endC (P : Program) (E : Env) (S : Ini) (w : World) (I : Nat → Prop) (Rt : Nat → Prop) (B : Nat → Nat → Option Pl) (r : AV) (h : List (Option Blk)) : Ending → World → Prop
  | .returned v, w' => ∃ I' L', Sim ⟨P, E, S, w, I, Rt, B, []⟩ I' L' ⟨[r], h⟩ { tmps := #[v], defers := [] } w'
  | _, _ => False

/-- A FUNCTION OF TWO PIECES -/
theorem fn_tail (hE : EnvOK P E) {f : FuncId} {fi : FnI} (hf : E.fn f = some fi) {args : List AV} {bs : List Blk} {T : Code} {t : St} (hcode : Spin P E S T fi.body (entryT E (E.ks f) fi args bs) .normal t) {b0 : Nat} {r : AV} {ts : List Blk} {hp : List (Option Blk)}
    (hT : ∀ (fn : Func), P.funcs[f]? = some fn → fi.results = fn.results.toList → ∀ (w : World) (I : Nat → Prop) (Rt : Nat → Prop) (B : Nat → Nat → Option Pl), WOK P E S w → E.kinds.length ≤ b0 → ∀ I1 L1 a1 w1, Sim ⟨P, E, S, w, I, Rt, B, []⟩ I1 L1 t a1 w1 →
      T.wpIn Fence.wide 5 P (bodyPostM Fence.wide 5 P fn (endC P E S w I Rt B r (outH E (E.ks f) ts b0 hp))) a1 w1) : Con P E S f args bs b0 r ts hp := by
  intro w I L Rt B vs hW hb0 hs
  obtain ⟨fn, hfn, hbody, hnt, hres, _⟩ := hE.fn f fi hf
  have hlen : args.length = vs.size := by
    have := hs.env.length
    simpa using this.symm
  have hs0 : Sim ⟨P, E, S, w, I, Rt, B, []⟩ I L (entryT E (E.ks f) fi args bs) { tmps := vs ++ Array.replicate (fn.ntmps - vs.size) undef, defers := [] } w := by
    refine ⟨?_, rfl, hs.blk, hs.dom, hs.own, hs.inj, hs.imm, hs.i0, hs.iN, hs.same, hs.fix, hs.bx, hs.grow, hs.io⟩
    simp only [entryT, Array.toList_append, Array.toList_replicate]
    refine hs.env.append ?_
    rw [hlen, hnt]
    generalize fi.ntmps - vs.size = n
    induction n with
    | zero => simp [RepL]
    | succ n ih => simp only [List.replicate_succ, RepL]; exact ⟨_, _, rfl, by simp [Rep], ih⟩
  have hc : CallsIn Fence.wide 5 P f vs w (endC P E S w I Rt B r (outH E (E.ks f) ts b0 hp)) := by
    refine callsIn_of_wp_marks hfn hbody trivial ?_ rfl
    refine wpIn_wide.2 (hcode w Rt B [] I I L _ w hW hs0 _ fun I' L' a' w' h' => ?_)
    exact wpIn_wide.1 (hT fn hfn hres.symm w I Rt B hW hb0 I' L' a' w' h')
  have hc := callsIn_wide.1 hc
  refine hc.mono fun e w' h => ?_
  cases e with
  | returned v => exact h
  | panicked _ => exact h
  | outgrown => exact h

end
end Go.Eng

/-
  ArenaScrubs, as a plain function: its head, its range over a part's blocks, its end.
-/
namespace Go.Proofs.YtnbpgehpjhifgaaDoor.Lx
open Go Go.Eng Go.Proofs Go.Proofs.LxArena
set_option maxRecDepth 100000

noncomputable abbrev body6 : Code := (Go.Proofs.Tryd.f6.body).getD .skip
noncomputable abbrev fi6 : FnI := ⟨body6, 166, Go.Proofs.Tryd.f6.results.toList⟩

def F_lodgelaw13_ArenaScrubs (N : Nat) (T0 : List R0) (T1 : List R1) (size_0 n_1 : Int) (b_2 : List Int) : Option ((List R0 × (List R1 × Unit)) × (Bool × Unit)) :=
  Option.bind (g_lodgelaw13_ArenaScrubs_0 N 1 T0 T1 size_0 n_1 b_2) fun y => match y with
    | .inr y => some y
    | .inl y => match y.2.2.1 with
      | none => none
      | some i => match decide (y.2.2.2.2.1.1 = 0) && (decide (i < y.1.1.length) && handlesOK y.1.2.1 (y.1.1.getD i z0).2.1) with
        | true => g_lodgelaw13_ArenaScrubs_2 N 1 y.1.1 y.1.2.1 y.2.1 (some i) y.2.2.2.1 (leftOf y.1.2.1 (y.1.1.getD i z0).2.1 8, ())
        | false => none

abbrev c_lodgelaw13_ArenaScrubs (N : Nat) : CallSpec E := ⟨6, ps_lodgelaw13_ArenaScrubs, rs_lodgelaw13_ArenaScrubs, fun x => F_lodgelaw13_ArenaScrubs N x.1.1 x.1.2.1 x.2.1 x.2.2.1 x.2.2.2.1⟩

theorem g0_eq (N : Nat) (T0 : List R0) (T1 : List R1) (size n : Int) (b : List Int) : g_lodgelaw13_ArenaScrubs_0 N 1 T0 T1 size n b =
    runJK E [0, 1] (cs_lodgelaw13_ArenaScrubs N) [l_lodgelaw13_ArenaScrubs_1 N] j_lodgelaw13_ArenaScrubs_0 (spineC 18 body6).1 1 1 (encSlots E [0, 1] h_lodgelaw13_ArenaScrubs_0 ((T0, (T1, ())), (size, (n, (b, ()))))) (ExTy E [0, 1] e_lodgelaw13_ArenaScrubs_0) (headK E [0, 1] (cs_lodgelaw13_ArenaScrubs N) e_lodgelaw13_ArenaScrubs_0) := by kernel_rfl

theorem g2_eq (N : Nat) (T0 : List R0) (T1 : List R1) (size : Int) (a : Option Nat) (c : List Int) (left : Int) : g_lodgelaw13_ArenaScrubs_2 N 1 T0 T1 size a c (left, ()) =
    loopBodyJK E [0, 1] (cs_lodgelaw13_ArenaScrubs N) [] [] 2 (second tail6) h_lodgelaw13_ArenaScrubs_2 e_lodgelaw13_ArenaScrubs_2 (fun _ => none) ((T0, (T1, ())), (size, (a, (c, ((left, ()), ()))))) := by kernel_rfl

theorem entry6 (T0 : List R0) (T1 : List R1) (size n : Int) (b : List Int) : encSlots E [0, 1] h_lodgelaw13_ArenaScrubs_0 ((T0, (T1, ())), (size, (n, (b, ())))) = entryT E (E.ks 6) fi6 (encL ps_lodgelaw13_ArenaScrubs (size, (n, (b, ())))) (encTabs E.kinds (E.ks 6) (T0, (T1, ()))) := by kernel_rfl

theorem fin0 (T0 : List R0) (T1 : List R1) (r : Bool) : ∃ us, (finA E (E.ks 6) fi6 rs_lodgelaw13_ArenaScrubs (encEx E [0, 1] e_lodgelaw13_ArenaScrubs_0 (.inr ((T0, (T1, ())), (r, ())))).2).run (callT E []) (encEx E [0, 1] e_lodgelaw13_ArenaScrubs_0 (.inr ((T0, (T1, ())), (r, ())))).2.rd = some (((T0, (T1, ())), (r, ())), us) := by
  have h : ((finA E (E.ks 6) fi6 rs_lodgelaw13_ArenaScrubs (encEx E [0, 1] e_lodgelaw13_ArenaScrubs_0 (.inr ((T0, (T1, ())), (r, ())))).2).run (callT E []) (encEx E [0, 1] e_lodgelaw13_ArenaScrubs_0 (.inr ((T0, (T1, ())), (r, ())))).2.rd).map (·.1) = some ((T0, (T1, ())), (r, ())) := by kernel_rfl
  obtain ⟨⟨_, us⟩, h1, h2⟩ := Option.map_eq_some_iff.1 h
  exact ⟨us, by rw [h1]; exact congrArg (fun q => some (q, us)) h2⟩
theorem fin2 (T0 : List R0) (T1 : List R1) (r : Bool) : ∃ us, (finA E (E.ks 6) fi6 rs_lodgelaw13_ArenaScrubs (encEx E [0, 1] e_lodgelaw13_ArenaScrubs_2 ((T0, (T1, ())), (r, ()))).2).run (callT E []) (encEx E [0, 1] e_lodgelaw13_ArenaScrubs_2 ((T0, (T1, ())), (r, ()))).2.rd = some (((T0, (T1, ())), (r, ())), us) := by
  have h : ((finA E (E.ks 6) fi6 rs_lodgelaw13_ArenaScrubs (encEx E [0, 1] e_lodgelaw13_ArenaScrubs_2 ((T0, (T1, ())), (r, ()))).2).run (callT E []) (encEx E [0, 1] e_lodgelaw13_ArenaScrubs_2 ((T0, (T1, ())), (r, ()))).2.rd).map (·.1) = some ((T0, (T1, ())), (r, ())) := by kernel_rfl
  obtain ⟨⟨_, us⟩, h1, h2⟩ := Option.map_eq_some_iff.1 h
  exact ⟨us, by rw [h1]; exact congrArg (fun q => some (q, us)) h2⟩

/-- the state at the range -/
noncomputable abbrev st1 (U0 : List R0) (U1 : List R1) (sz : Int) (i : Nat) (c : List Int) (left : Int) : St := (encEx E [0, 1] e_lodgelaw13_ArenaScrubs_0 (.inl ((U0, (U1, ())), (sz, (some i, (c, ((left, ()), ()))))))).2

section
variable (U0 : List R0) (U1 : List R1) (sz : Int) (i : Nat) (c : List Int) (left : Int)
theorem st1_heap : (st1 U0 U1 sz i c left).heap = [some (tabB K0 U0), some (tabB K1 U1), some { ct := .sl (.int .u8) c, gen := 0, frozen := false }, some { ct := .box [.v (.int .i64 left)], gen := 0, frozen := false }] := by kernel_rfl
theorem st1_8 : (st1 U0 U1 sz i c left).env.getD 8 .top = .hd 0 (some i) := by kernel_rfl
theorem st1_23 : (st1 U0 U1 sz i c left).env.getD 23 .top = .lptr (.l 3) 0 0 0 := by kernel_rfl
theorem st1_len : (st1 U0 U1 sz i c left).env.length = 166 := by kernel_rfl
theorem st2_eq (left' : Int) : (⟨putD (putD (st1 U0 U1 sz i c left).env (some 149) .top) (some 150) .top, [some (tabB K0 U0), some (tabB K1 U1), some { ct := .sl (.int .u8) c, gen := 0, frozen := false }, some { ct := .box [.v (.int .i64 left')], gen := 0, frozen := false }]⟩ : St) = encSlots E [0, 1] h_lodgelaw13_ArenaScrubs_2 ((U0, (U1, ())), (sz, (some i, (c, ((left', ()), ()))))) := by kernel_rfl
theorem ret2 (y : (List R0 × (List R1 × Unit)) × (Bool × Unit)) : (encEx E [0, 1] e_lodgelaw13_ArenaScrubs_2 y).1 = .ret := by kernel_rfl
end

end Go.Proofs.YtnbpgehpjhifgaaDoor.Lx

/-
  ArenaScrubs: the plain function is the code's.
-/
namespace Go.Proofs.YtnbpgehpjhifgaaDoor.Lx
open Go Go.Eng Go.Proofs Go.Proofs.LxArena
set_option maxRecDepth 100000

theorem tail6_def : (spineC 18 body6).2 = tail6 := rfl

theorem F_lodgelaw13_ArenaScrubs_ok (S : Ini) (N : Nat) : ∀ x y, (c_lodgelaw13_ArenaScrubs N).g x = some y → FCon Go.Proofs.Tryd.prog E S 6 ps_lodgelaw13_ArenaScrubs rs_lodgelaw13_ArenaScrubs x y := by
  intro x y h b0
  obtain ⟨⟨T0, T1, ⟨⟩⟩, size, n, b, ⟨⟩⟩ := x
  have h : F_lodgelaw13_ArenaScrubs N T0 T1 size n b = some y := h
  unfold F_lodgelaw13_ArenaScrubs at h
  cases hg : g_lodgelaw13_ArenaScrubs_0 N 1 T0 T1 size n b with
  | none => rw [hg] at h; cases h
  | some z =>
    rw [hg, Option.bind_some] at h
    have hg := (g0_eq N T0 T1 size n b).symm.trans hg
    have hp := piece1 (P := Go.Proofs.Tryd.prog) (S := S) (tk := [0, 1]) E_ok mixed (E_ok.ks 6) (cs_lodgelaw13_ArenaScrubs_ok S N) (all := loopsOf b_lodgelaw13_ArenaScrubs) (ls := [l_lodgelaw13_ArenaScrubs_1 N]) (.cons (by kernel_rfl) (g_lodgelaw13_ArenaScrubs_1_ok S N N) .nil) (js := j_lodgelaw13_ArenaScrubs_0) (j := 18) (i := 1) (m := 1) (c := body6) (head := h_lodgelaw13_ArenaScrubs_0) (ex := e_lodgelaw13_ArenaScrubs_0)
      (by kernel_rfl) (inner_of (i := 0) (by kernel_rfl)) hg
    have hp := Eq.mp (congrArg (fun s => ((encEx E [0, 1] e_lodgelaw13_ArenaScrubs_0 z).1 = .exit 99 ∧ Spin Go.Proofs.Tryd.prog E S (spineC 18 body6).2 body6 s .normal (encEx E [0, 1] e_lodgelaw13_ArenaScrubs_0 z).2) ∨ ((encEx E [0, 1] e_lodgelaw13_ArenaScrubs_0 z).1 = .ret ∧ CodeCon Go.Proofs.Tryd.prog E S body6 s .ret (encEx E [0, 1] e_lodgelaw13_ArenaScrubs_0 z).2)) (entry6 T0 T1 size n b)) hp
    have hfi : E.fn 6 = some fi6 := by kernel_rfl
    cases z with
    | inr z =>
      obtain ⟨⟨Z0, Z1, ⟨⟩⟩, r, ⟨⟩⟩ := z
      obtain rfl := Option.some.inj h
      rcases hp with ⟨h1, _⟩ | ⟨_, hc⟩
      · exact absurd (show AX.ret = AX.exit 99 from h1) (by simp)
      · obtain ⟨us, e'⟩ := fin0 Z0 Z1 r
        exact fn_soundC E_ok hfi (x := .ret) (by simp) hc e' b0
    | inl z =>
      obtain ⟨⟨U0, U1, ⟨⟩⟩, sz, ah, c, ⟨left, ⟨⟩⟩, ⟨⟩⟩ := z
      simp only at h
      cases ah with
      | none => cases h
      | some i =>
        simp only at h
        split at h
        · rename_i hok
          simp only [Bool.and_eq_true, decide_eq_true_eq, handlesOK, List.all_eq_true] at hok
          obtain ⟨hleft, hi, hlen, hall⟩ := hok
          rcases hp with ⟨_, hp⟩ | ⟨h1, _⟩
          · obtain ⟨⟨Y0, Y1, ⟨⟩⟩, r, ⟨⟩⟩ := y
            refine fn_tail E_ok hfi hp fun fn hfn hres w I Rt B hW hb0 I1 L1 a1 w1 hs => ?_
            have hs : Sim ⟨Go.Proofs.Tryd.prog, E, S, w, I, Rt, B, []⟩ I1 L1 (st1 U0 U1 sz i c left) a1 w1 := hs
            have hs1 : Sim ⟨Go.Proofs.Tryd.prog, E, S, w, I, Rt, B, []⟩ I1 L1 ⟨(st1 U0 U1 sz i c left).env, [some (tabB K0 U0), some (tabB K1 U1), some { ct := .sl (.int .u8) c, gen := 0, frozen := false }, some { ct := .box [.v (.int .i64 left)], gen := 0, frozen := false }]⟩ a1 w1 := by
              rw [← st1_heap U0 U1 sz i c left]; exact hs
            have h8 : Rep ((⟨Go.Proofs.Tryd.prog, E, S, w, I, Rt, B, []⟩ : Ctx).rc I1 L1 w1) L1 (.hd 0 (some i)) (a1.eval (.tmp 8)) := by
              have := hs.tmp 8; rw [st1_8] at this; exact this
            have h23 : Rep ((⟨Go.Proofs.Tryd.prog, E, S, w, I, Rt, B, []⟩ : Ctx).rc I1 L1 w1) L1 (.lptr (.l 3) 0 0 0) (a1.eval (.tmp 23)) := by
              have := hs.tmp 23; rw [st1_23] at this; exact this
            have hsz : a1.tmps.size = 166 := by rw [hs.size, st1_len]
            obtain ⟨p, hpL, e8⟩ := hd_at h8
            have hall' : ∀ x, x ∈ (U0.getD i z0).2.1 → ∃ j, x = some j ∧ j < U1.length ∧ (U1.getD j z1).2.2.2.1.length ≤ 1000000 := fun x hx => by
              have := hall x hx
              cases x with
              | none => cases this
              | some j =>
                simp only [Bool.and_eq_true, decide_eq_true_eq] at this
                exact ⟨j, rfl, this.1, this.2⟩
            have hA := arena_at hs1 (T0 := U0) (T1 := U1) rfl rfl hi (fun x hx => by
              obtain ⟨j, e, hj, _⟩ := hall' x hx
              exact ⟨j, e, hj⟩) hpL
            simp only [Rep] at h23
            obtain ⟨pb, hpb, hge, q, e23, hcur⟩ := h23
            obtain ⟨⟨hpg, hk⟩, hf⟩ := hs1.get hpb (b := { ct := .box [.v (.int .i64 left)], gen := 0, frozen := false }) rfl
            obtain ⟨hv, hpo, cells, T, hh, hrow⟩ := hk
            have hqq := hcur hpg
            simp only [hpo, Nat.zero_mul, Nat.zero_add, Nat.add_zero] at hqq
            have hcells : cells = #[.int .i64 0] := by
              simp only [RepL, Rep] at hrow
              obtain ⟨v0, t0, e0, rfl, rfl⟩ := hrow
              rw [hleft] at e0
              exact Array.ext' e0
            rw [hcells] at hh
            rw [tail6_def, tail6_eq]
            refine tail_raw (F := Fence.wide) (a := a1) (w := w1) (ab := p.b) (pb := pb.b) (T := T) (ps := (U0.getD i z0).2.1.map fun x => prOf L1 U1 (x.getD 0)) rfl trivial trivial hsz hs1.defers e8 (by rw [e23, hqq]) hh
              (fun W hW1 ca ci h1 h2 => blocks_stops (by omega) h1 h2 (hA.below hW1) (by rw [List.length_map]; exact hlen) (fun q hq => by
                obtain ⟨x, hx, rfl⟩ := List.mem_map.1 hq
                obtain ⟨j, rfl, _, hj⟩ := hall' x hx
                exact hj)) (fun u v W D hD hDef hbox hoth hsize hio => ?_)
            rw [last_prs] at hbox
            have hDl : D < W.heap.size := (Array.getElem?_eq_some_iff.1 hDef).1
            obtain ⟨L2, hs2⟩ := hs1.boxNum hpb (id := 3) rfl rfl rfl hsize hio hbox hoth
            have hs3 := ((hs2.put (some 149) (x := .top) (v := u) (by simp [Rep])).put (some 150) (x := .top) (v := v) (by simp [Rep])).off [{ target := .collected D, args := #[] }]
            have hs4 : Sim ⟨Go.Proofs.Tryd.prog, E, S, w, I, Rt, B, [{ target := .collected D, args := #[] }]⟩ I1 L2 (encSlots E [0, 1] h_lodgelaw13_ArenaScrubs_2 ((U0, (U1, ())), (sz, (some i, (c, ((leftOf U1 (U0.getD i z0).2.1 8, ()), ())))))) { ((a1.put (some 149) u).put (some 150) v) with defers := [{ target := .collected D, args := #[] }] } W := by
              rw [← st2_eq U0 U1 sz i c left]; exact hs3
            have hc2 : CodeCon Go.Proofs.Tryd.prog E S (second tail6) (encSlots E [0, 1] h_lodgelaw13_ArenaScrubs_2 ((U0, (U1, ())), (sz, (some i, (c, ((leftOf U1 (U0.getD i z0).2.1 8, ()), ())))))) .ret (encEx E [0, 1] e_lodgelaw13_ArenaScrubs_2 ((Y0, (Y1, ())), (r, ()))).2 := piece2 (P := Go.Proofs.Tryd.prog) (S := S) (tk := [0, 1]) E_ok mixed (E_ok.ks 6) (cs_lodgelaw13_ArenaScrubs_ok S N) (all := loopsOf b_lodgelaw13_ArenaScrubs) (ls := []) .nil (js := []) (i := 2) (c := second tail6) (head := h_lodgelaw13_ArenaScrubs_2) (ex := e_lodgelaw13_ArenaScrubs_2)
              (by kernel_rfl) (inner_of (by kernel_rfl)) ((g2_eq N U0 U1 sz (some i) c _).symm.trans h)
            refine wpIn_wide.2 (hc2 W (RtOf L2) (BOf L2) [{ target := .collected D, args := #[] }] I1 I1 L2 _ W (hs4.wok hW) hs4.rebase _ fun I' L' a' w' h' => ?_)
            show LeavesInM Fence.wide 5 Go.Proofs.Tryd.prog fn a'.tmps _ a'.defers .returning w'
            rw [h'.defers]
            have hnt : ¬ RtOf L2 D := hs4.no_cells hDef (fun cs T fz e => by cases e)
            have hD' : w'.heap[D]? = some (.deferred (some [])) := (h'.same D hDl hnt).trans hDef
            have hs6 := hs4.unbase h'
            have hsl := hs.grow
            have hnI : ¬ I' D := fun hI => by
              rcases h'.iN D hI with h1 | h1 | h1
              · have := hs.imm D h1; omega
              · have h1 : W.heap.size ≤ D := h1; omega
              · exact hnt h1
            have hs8 := (hs6.turned hD' (fun cs T fz e => by cases e) hnI (Nat.le_trans hsl hD) (w' := w'.putObj D (.deferred none)) (by simp) ⟨rfl, rfl, rfl⟩ (fun b hb => World.putObj_heap_other hb)).off []
            obtain ⟨us, e'⟩ := fin2 Y0 Y1 r
            obtain ⟨vv, hv1, hv2⟩ := fin_sound E_ok (f := 6) (fi := fi6) hres hW hb0 hs8 e'
            exact ⟨by simp, .inl ⟨_, _, rfl, run_takeDeferred hD', vv, hv1, hv2⟩⟩
          · exact absurd (show AX.exit 99 = AX.ret from h1) (by simp)
        · cases h

end Go.Proofs.YtnbpgehpjhifgaaDoor.Lx
