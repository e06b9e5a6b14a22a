/-
  The tables of the seat's program.
-/
import Derived.Test.YtmbcbocnncfpbaaDoorLgEngZd
import Derived.Test.YtmbcbocnncfpbaaDoorProg
import Derived.KernelRfl
namespace Go.Proofs.YtmbcbocnncfpbaaDoor.Lg
open Go Go.Eng Go.Proofs

def nms : Names := ⟨106, 87⟩

def tys : List (TypeId × TyI) := [
  (3, ⟨.int .i64, 1, 8, [.v (.int .i64 0)], some (.int .i64)⟩),
  (4, ⟨.bool, 1, 1, [.v (.bool false)], some .bool⟩),
  (21, ⟨.int .i32, 1, 4, [.v (.int .i32 0)], some (.int .i32)⟩),
  (22, ⟨.slice 3, 1, 24, [.v (.slice none 0 0)], some (.sl (.int .i64))⟩),
  (23, ⟨.slice 27, 1, 24, [.v (.slice none 0 0)], some (.sl (.st (.pair (.sl (.int .i64)) .bool)))⟩),
  (27, ⟨.struct [(22, 0, 1), (4, 1, 1)], 2, 32, [.v (.slice none 0 0), .v (.bool false)], some (.st (.pair (.sl (.int .i64)) .bool))⟩),
  (29, ⟨.iface, 1, 16, [.v (.nilIface)], some .err⟩),
  (42, ⟨.struct [(27, 0, 2), (22, 2, 1)], 3, 56, [.v (.slice none 0 0), .v (.bool false), .v (.slice none 0 0)], some (.st (.pair (.st (.pair (.sl (.int .i64)) .bool)) (.sl (.int .i64))))⟩),
  (48, ⟨.struct [(3, 0, 1), (4, 1, 1), (3, 2, 1)], 3, 24, [.v (.int .i64 0), .v (.bool false), .v (.int .i64 0)], some (.st (.pair (.int .i64) (.pair .bool (.int .i64))))⟩),
  (51, ⟨.slice 42, 1, 24, [.v (.slice none 0 0)], some (.sl (.st (.pair (.st (.pair (.sl (.int .i64)) .bool)) (.sl (.int .i64)))))⟩),
  (73, ⟨.int .u32, 1, 4, [.v (.int .u32 0)], some (.int .u32)⟩),
  (74, ⟨.int .u64, 1, 8, [.v (.int .u64 0)], some (.int .u64)⟩),
  (87, ⟨.ptr 89, 1, 8, [.v (.pointer none)], none⟩),
  (89, ⟨.struct [(3, 0, 1), (29, 1, 1)], 2, 24, [.v (.int .i64 0), .v (.nilIface)], some (.st (.pair (.int .i64) .err))⟩),
  (101, ⟨.int .u64, 1, 8, [.v (.int .u64 0)], some (.int .u64)⟩)]

def fns : List Nat := [34, 79, 61, 62, 31, 33, 60, 35, 37, 36, 63, 38, 11, 18, 65, 44, 59, 28, 17, 45, 20, 32, 9, 15, 16, 4, 74, 57, 56, 58, 26, 27, 21, 6, 14, 25, 7, 10, 19, 51, 43, 52, 41, 50, 53, 23, 29, 30, 8]
def gbs : List Nat := [0, 1, 2, 3]
abbrev ErrKind : Nat := 0
abbrev ErrShape : Nat := 1
abbrev ErrRange : Nat := 2
abbrev ErrMany : Nat := 3

noncomputable def E : Eng.Env := mkEnv Tryd.prog nms tys fns gbs

set_option maxRecDepth 100000 in
theorem tys_ok : TysOK Tryd.prog nms tys := ⟨by kernel_rfl, by kernel_rfl, by kernel_rfl, by kernel_rfl, by kernel_rfl, by kernel_rfl, by kernel_rfl, by kernel_rfl, by kernel_rfl, by kernel_rfl, by kernel_rfl, by kernel_rfl, by kernel_rfl, by kernel_rfl, by kernel_rfl, trivial⟩
theorem E_ok : EnvOK Tryd.prog E := mkEnv_ok tys_ok.mem (fnsOK.mem (by kernel_rfl))
theorem mixed : Tryd.prog.follows .mixedOrders = true := by kernel_rfl

end Go.Proofs.YtmbcbocnncfpbaaDoor.Lg
