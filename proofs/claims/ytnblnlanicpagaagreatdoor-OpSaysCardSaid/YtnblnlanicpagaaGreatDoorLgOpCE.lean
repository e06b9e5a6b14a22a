/-
  The tables of the seat's program.
-/
import Derived.Test.YtnblnlanicpagaaGreatDoorLgEngZd
import Derived.Test.YtnblnlanicpagaaGreatDoorProg
import Derived.KernelRfl
namespace Go.Proofs.YtnblnlanicpagaaGreatDoor.Lg
open Go Go.Eng Go.Proofs

def nms : Names := ⟨131, 102⟩

def tys : List (TypeId × TyI) := [
  (3, ⟨.int .i64, 1, 8, [.v (.int .i64 0)], some (.int .i64), none⟩),
  (4, ⟨.bool, 1, 1, [.v (.bool false)], some .bool, none⟩),
  (9, ⟨.str, 1, 16, [.v (.string .empty)], some .str, none⟩),
  (21, ⟨.int .i32, 1, 4, [.v (.int .i32 0)], some (.int .i32), none⟩),
  (22, ⟨.slice 3, 1, 24, [.v (.slice none 0 0)], some (.sl (.int .i64)), none⟩),
  (23, ⟨.slice 29, 1, 24, [.v (.slice none 0 0)], some (.sl (.st (.pair (.st (.pair (.sl (.int .i64)) .bool)) (.sl (.int .i64))))), none⟩),
  (27, ⟨.struct [(22, 0, 1), (4, 1, 1)], 2, 32, [.v (.slice none 0 0), .v (.bool false)], some (.st (.pair (.sl (.int .i64)) .bool)), none⟩),
  (29, ⟨.struct [(27, 0, 2), (22, 2, 1)], 3, 56, [.v (.slice none 0 0), .v (.bool false), .v (.slice none 0 0)], some (.st (.pair (.st (.pair (.sl (.int .i64)) .bool)) (.sl (.int .i64)))), none⟩),
  (31, ⟨.iface, 1, 16, [.v (.nilIface)], some .err, none⟩),
  (35, ⟨.struct [(3, 0, 1), (4, 1, 1), (3, 2, 1)], 3, 24, [.v (.int .i64 0), .v (.bool false), .v (.int .i64 0)], some (.st (.pair (.int .i64) (.pair .bool (.int .i64)))), none⟩),
  (44, ⟨.other, 1, 8, [.v (.nilFunc)], none, some (.clo 55 (.ref (.st (.pair (.st (.pair (.sl (.int .i64)) .bool)) (.sl (.int .i64))))))⟩),
  (51, ⟨.slice 27, 1, 24, [.v (.slice none 0 0)], some (.sl (.st (.pair (.sl (.int .i64)) .bool))), none⟩),
  (59, ⟨.slice 44, 1, 24, [.v (.slice none 0 0)], some (.sl (.clo 55 (.ref (.st (.pair (.st (.pair (.sl (.int .i64)) .bool)) (.sl (.int .i64))))))), none⟩),
  (70, ⟨.slice 9, 1, 24, [.v (.slice none 0 0)], some (.sl .str), none⟩),
  (102, ⟨.ptr 106, 1, 8, [.v (.pointer none)], none, none⟩),
  (106, ⟨.struct [(3, 0, 1), (31, 1, 1)], 2, 24, [.v (.int .i64 0), .v (.nilIface)], some (.st (.pair (.int .i64) .err)), none⟩),
  (122, ⟨.int .u32, 1, 4, [.v (.int .u32 0)], some (.int .u32), none⟩),
  (123, ⟨.int .u64, 1, 8, [.v (.int .u64 0)], some (.int .u64), none⟩),
  (124, ⟨.slice 31, 1, 24, [.v (.slice none 0 0)], some (.sl .err), none⟩),
  (130, ⟨.int .u64, 1, 8, [.v (.int .u64 0)], some (.int .u64), none⟩)]

def fns : List Nat := [13, 14, 16, 82, 97, 96, 72, 73, 74, 99, 103, 106, 100, 98, 75, 56, 28, 76, 77, 88, 102, 101, 78, 44, 21, 4, 79, 45, 22, 10, 51, 80, 41, 40, 53, 64, 62, 81, 46, 15, 17, 52, 47, 48, 49, 50, 25, 23, 24, 5, 83, 54, 26, 55, 27, 84, 57, 85, 58, 86, 59, 104, 87, 60, 89, 105, 90, 61, 29, 6, 32, 35, 63, 30, 31, 33, 66, 70, 91, 92, 65, 67, 93, 68, 69, 34, 7, 37, 9, 36, 8, 94, 95, 71, 39, 38, 11, 12, 42, 18, 19, 43, 20, 3]
def gbs : List Nat := [0, 1, 2, 3, 4, 5, 6, 7, 8, 9, 10, 11, 12, 13, 14, 15, 16, 17, 18, 19, 20]
abbrev ErrKind : Nat := 0
abbrev ErrShape : Nat := 1
abbrev ErrRange : Nat := 2
abbrev ErrMany : Nat := 3
abbrev ErrEnd : Nat := 4
abbrev ErrRoom : Nat := 5
abbrev ErrNone : Nat := 6
abbrev ErrAlias : Nat := 7
abbrev ErrCost : Nat := 8
abbrev ErrJump : Nat := 9
abbrev ErrCycle : Nat := 10
abbrev ErrFuel : Nat := 11
abbrev ErrFull : Nat := 12
abbrev ErrQuota : Nat := 13
abbrev ErrCap : Nat := 14
abbrev ErrStale : Nat := 15
abbrev ErrTag : Nat := 16
abbrev ErrOld : Nat := 17
abbrev ErrTenant : Nat := 18
abbrev ErrWord : Nat := 19
abbrev ErrNumber : Nat := 20

noncomputable def E : Eng.Env := mkEnv Tryz.prog nms tys fns gbs

set_option maxRecDepth 100000 in
theorem tys_ok : TysOK Tryz.prog nms tys := ⟨by kernel_rfl, by kernel_rfl, by kernel_rfl, by kernel_rfl, by kernel_rfl, by kernel_rfl, by kernel_rfl, by kernel_rfl, by kernel_rfl, by kernel_rfl, by kernel_rfl, by kernel_rfl, by kernel_rfl, by kernel_rfl, by kernel_rfl, by kernel_rfl, by kernel_rfl, by kernel_rfl, by kernel_rfl, by kernel_rfl, trivial⟩
theorem E_ok : EnvOK Tryz.prog E := mkEnv_ok tys_ok.mem (fnsOK.mem (by kernel_rfl))
theorem mixed : Tryz.prog.follows .mixedOrders = true := by kernel_rfl

end Go.Proofs.YtnblnlanicpagaaGreatDoor.Lg
