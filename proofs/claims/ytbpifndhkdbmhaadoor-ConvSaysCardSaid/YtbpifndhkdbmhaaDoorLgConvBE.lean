/-
  The tables of the seat's program.
-/
import Derived.Test.YtbpifndhkdbmhaaDoorLgEngZd
import Derived.Test.YtbpifndhkdbmhaaDoorProg
import Derived.KernelRfl
namespace Go.Proofs.YtbpifndhkdbmhaaDoor.Lg
open Go Go.Eng Go.Proofs

def nms : Names := ⟨112, 90⟩

def tys : List (TypeId × TyI) := [
  (3, ⟨.int .i64, 1, 8, [.v (.int .i64 0)], some (.int .i64)⟩),
  (4, ⟨.bool, 1, 1, [.v (.bool false)], some .bool⟩),
  (21, ⟨.int .i32, 1, 4, [.v (.int .i32 0)], some (.int .i32)⟩),
  (25, ⟨.slice 3, 1, 24, [.v (.slice none 0 0)], some (.sl (.int .i64))⟩),
  (29, ⟨.struct [(25, 0, 1), (4, 1, 1)], 2, 32, [.v (.slice none 0 0), .v (.bool false)], some (.st (.pair (.sl (.int .i64)) .bool))⟩),
  (31, ⟨.struct [(29, 0, 2), (25, 2, 1)], 3, 56, [.v (.slice none 0 0), .v (.bool false), .v (.slice none 0 0)], some (.st (.pair (.st (.pair (.sl (.int .i64)) .bool)) (.sl (.int .i64))))⟩),
  (35, ⟨.iface, 1, 16, [.v (.nilIface)], some .err⟩),
  (45, ⟨.struct [(3, 0, 1), (4, 1, 1), (3, 2, 1)], 3, 24, [.v (.int .i64 0), .v (.bool false), .v (.int .i64 0)], some (.st (.pair (.int .i64) (.pair .bool (.int .i64))))⟩),
  (54, ⟨.slice 31, 1, 24, [.v (.slice none 0 0)], some (.sl (.st (.pair (.st (.pair (.sl (.int .i64)) .bool)) (.sl (.int .i64)))))⟩),
  (67, ⟨.other, 1, 8, [.v (.nilFunc)], none⟩),
  (70, ⟨.slice 29, 1, 24, [.v (.slice none 0 0)], some (.sl (.st (.pair (.sl (.int .i64)) .bool)))⟩),
  (90, ⟨.ptr 94, 1, 8, [.v (.pointer none)], none⟩),
  (94, ⟨.struct [(3, 0, 1), (35, 1, 1)], 2, 24, [.v (.int .i64 0), .v (.nilIface)], some (.st (.pair (.int .i64) .err))⟩),
  (104, ⟨.int .u32, 1, 4, [.v (.int .u32 0)], some (.int .u32)⟩),
  (105, ⟨.int .u64, 1, 8, [.v (.int .u64 0)], some (.int .u64)⟩),
  (106, ⟨.slice 35, 1, 24, [.v (.slice none 0 0)], some (.sl .err)⟩),
  (111, ⟨.int .u64, 1, 8, [.v (.int .u64 0)], some (.int .u64)⟩)]

def fns : List Nat := [37, 60, 33, 78, 59, 38, 16, 32, 61, 35, 10, 58, 34, 14, 30, 9, 36, 15, 42, 39, 43, 40, 13, 62, 41, 17, 19, 31, 45, 44, 18, 79, 80, 63, 47, 46, 22, 20, 21, 23, 49, 64, 65, 66, 67, 68, 69, 70, 48, 50, 72, 76, 81, 82, 71, 73, 83, 74, 75, 51, 24, 25, 52, 26, 5]
def gbs : List Nat := [0, 1, 2, 3, 4, 5, 6, 7, 8, 9, 10, 11, 12, 13, 14, 15, 16, 17, 18, 19, 20]
abbrev ErrShape : Nat := 0
abbrev ErrRange : Nat := 1
abbrev ErrMany : Nat := 2
abbrev ErrKind : Nat := 3
abbrev ErrEnd : Nat := 4
abbrev ErrRoom : Nat := 5
abbrev ErrNone : Nat := 6
abbrev ErrAlias : Nat := 7
abbrev ErrCost : Nat := 8
abbrev ErrJump : Nat := 9
abbrev ErrCycle : Nat := 10
abbrev ErrFuel : Nat := 11
abbrev ErrFull : Nat := 12
abbrev ErrQuota : Nat := 13
abbrev ErrCap : Nat := 14
abbrev ErrStale : Nat := 15
abbrev ErrTag : Nat := 16
abbrev ErrOld : Nat := 17
abbrev ErrTenant : Nat := 18
abbrev ErrWord : Nat := 19
abbrev ErrNumber : Nat := 20

noncomputable def E : Eng.Env := mkEnv Tryd.prog nms tys fns gbs

set_option maxRecDepth 100000 in
theorem tys_ok : TysOK Tryd.prog nms tys := ⟨by kernel_rfl, by kernel_rfl, by kernel_rfl, by kernel_rfl, by kernel_rfl, by kernel_rfl, by kernel_rfl, by kernel_rfl, by kernel_rfl, by kernel_rfl, by kernel_rfl, by kernel_rfl, by kernel_rfl, by kernel_rfl, by kernel_rfl, by kernel_rfl, by kernel_rfl, trivial⟩
theorem E_ok : EnvOK Tryd.prog E := mkEnv_ok tys_ok.mem (fnsOK.mem (by kernel_rfl))
theorem mixed : Tryd.prog.follows .mixedOrders = true := by kernel_rfl

end Go.Proofs.YtbpifndhkdbmhaaDoor.Lg
