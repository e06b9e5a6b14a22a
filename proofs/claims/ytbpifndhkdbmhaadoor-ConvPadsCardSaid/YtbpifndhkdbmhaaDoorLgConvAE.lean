/-
  The tables of the seat's program.
-/
import Derived.Test.YtbpifndhkdbmhaaDoorLgEngZb
import Derived.Test.YtbpifndhkdbmhaaDoorProg
import Derived.KernelRfl
namespace Go.Proofs.YtbpifndhkdbmhaaDoor.Lg
open Go Go.Eng Go.Proofs

def nms : Names := ⟨112, 90⟩

def tys : List (TypeId × TyI) := [
  (3, ⟨.int .i64, 1, 8, [.v (.int .i64 0)], some (.int .i64)⟩),
  (4, ⟨.bool, 1, 1, [.v (.bool false)], some .bool⟩),
  (21, ⟨.int .i32, 1, 4, [.v (.int .i32 0)], some (.int .i32)⟩),
  (25, ⟨.slice 3, 1, 24, [.v (.slice none 0 0)], some (.sl (.int .i64))⟩),
  (29, ⟨.struct [(25, 0, 1), (4, 1, 1)], 2, 32, [.v (.slice none 0 0), .v (.bool false)], some (.st (.pair (.sl (.int .i64)) .bool))⟩),
  (31, ⟨.struct [(29, 0, 2), (25, 2, 1)], 3, 56, [.v (.slice none 0 0), .v (.bool false), .v (.slice none 0 0)], some (.st (.pair (.st (.pair (.sl (.int .i64)) .bool)) (.sl (.int .i64))))⟩),
  (35, ⟨.iface, 1, 16, [.v (.nilIface)], some .err⟩),
  (54, ⟨.slice 31, 1, 24, [.v (.slice none 0 0)], some (.sl (.st (.pair (.st (.pair (.sl (.int .i64)) .bool)) (.sl (.int .i64)))))⟩),
  (67, ⟨.other, 1, 8, [.v (.nilFunc)], none⟩),
  (70, ⟨.slice 29, 1, 24, [.v (.slice none 0 0)], some (.sl (.st (.pair (.sl (.int .i64)) .bool)))⟩),
  (90, ⟨.ptr 94, 1, 8, [.v (.pointer none)], none⟩),
  (94, ⟨.struct [(3, 0, 1), (35, 1, 1)], 2, 24, [.v (.int .i64 0), .v (.nilIface)], some (.st (.pair (.int .i64) .err))⟩),
  (104, ⟨.int .u32, 1, 4, [.v (.int .u32 0)], some (.int .u32)⟩),
  (105, ⟨.int .u64, 1, 8, [.v (.int .u64 0)], some (.int .u64)⟩)]

def fns : List Nat := [37, 60, 33, 78, 59, 38, 16, 32, 61, 35, 10, 58, 34, 14, 30, 9, 3, 11, 42, 31, 12, 13, 4, 23, 6, 54, 53, 27, 7, 56, 55, 28, 84, 77, 57, 29, 8]
def gbs : List Nat := [0, 1, 2]
abbrev ErrShape : Nat := 0
abbrev ErrRange : Nat := 1
abbrev ErrMany : Nat := 2

noncomputable def E : Eng.Env := mkEnv Tryd.prog nms tys fns gbs

set_option maxRecDepth 100000 in
theorem tys_ok : TysOK Tryd.prog nms tys := ⟨by kernel_rfl, by kernel_rfl, by kernel_rfl, by kernel_rfl, by kernel_rfl, by kernel_rfl, by kernel_rfl, by kernel_rfl, by kernel_rfl, by kernel_rfl, by kernel_rfl, by kernel_rfl, by kernel_rfl, by kernel_rfl, trivial⟩
theorem E_ok : EnvOK Tryd.prog E := mkEnv_ok tys_ok.mem (fnsOK.mem (by kernel_rfl))
theorem mixed : Tryd.prog.follows .mixedOrders = true := by kernel_rfl

end Go.Proofs.YtbpifndhkdbmhaaDoor.Lg
