/-
  The tables of the seat's program.
-/
import Derived.Test.YtnblnlanicpagaaDoorLgEngZd
import Derived.Test.YtnblnlanicpagaaDoorProg
import Derived.KernelRfl
namespace Go.Proofs.YtnblnlanicpagaaDoor.Lg
open Go Go.Eng Go.Proofs

def nms : Names := ⟨124, 93⟩

def tys : List (TypeId × TyI) := [
  (3, ⟨.int .i64, 1, 8, [.v (.int .i64 0)], some (.int .i64), none⟩),
  (4, ⟨.bool, 1, 1, [.v (.bool false)], some .bool, none⟩),
  (9, ⟨.str, 1, 16, [.v (.string .empty)], some .str, none⟩),
  (21, ⟨.int .i32, 1, 4, [.v (.int .i32 0)], some (.int .i32), none⟩),
  (22, ⟨.slice 3, 1, 24, [.v (.slice none 0 0)], some (.sl (.int .i64)), none⟩),
  (23, ⟨.slice 27, 1, 24, [.v (.slice none 0 0)], some (.sl (.st (.pair (.sl (.int .i64)) .bool))), none⟩),
  (27, ⟨.struct [(22, 0, 1), (4, 1, 1)], 2, 32, [.v (.slice none 0 0), .v (.bool false)], some (.st (.pair (.sl (.int .i64)) .bool)), none⟩),
  (29, ⟨.iface, 1, 16, [.v (.nilIface)], some .err, none⟩),
  (47, ⟨.other, 1, 8, [.v (.nilFunc)], none, some (.clo 77 (.ref (.st (.pair (.st (.pair (.sl (.int .i64)) .bool)) (.sl (.int .i64))))))⟩),
  (50, ⟨.struct [(27, 0, 2), (22, 2, 1)], 3, 56, [.v (.slice none 0 0), .v (.bool false), .v (.slice none 0 0)], some (.st (.pair (.st (.pair (.sl (.int .i64)) .bool)) (.sl (.int .i64)))), none⟩),
  (57, ⟨.slice 50, 1, 24, [.v (.slice none 0 0)], some (.sl (.st (.pair (.st (.pair (.sl (.int .i64)) .bool)) (.sl (.int .i64))))), none⟩),
  (81, ⟨.slice 9, 1, 24, [.v (.slice none 0 0)], some (.sl .str), none⟩),
  (85, ⟨.slice 47, 1, 24, [.v (.slice none 0 0)], some (.sl (.clo 77 (.ref (.st (.pair (.st (.pair (.sl (.int .i64)) .bool)) (.sl (.int .i64))))))), none⟩),
  (93, ⟨.ptr 95, 1, 8, [.v (.pointer none)], none, none⟩),
  (95, ⟨.struct [(3, 0, 1), (29, 1, 1)], 2, 24, [.v (.int .i64 0), .v (.nilIface)], some (.st (.pair (.int .i64) .err)), none⟩),
  (121, ⟨.int .u32, 1, 4, [.v (.int .u32 0)], some (.int .u32), none⟩),
  (122, ⟨.int .u64, 1, 8, [.v (.int .u64 0)], some (.int .u64), none⟩)]

def fns : List Nat := [20, 21, 30, 60, 63, 62, 31, 32, 33, 65, 70, 85, 67, 64, 34, 78, 56, 35, 36, 66, 69, 68, 37, 11, 13, 9, 17, 4, 53, 19, 52, 18, 5, 61, 29, 54, 77, 55, 89, 79, 90, 80, 91, 81, 97, 92, 82, 93, 98, 94, 83, 57, 22, 24, 16, 23, 6, 7, 10, 84, 58, 38, 46, 71, 48, 72, 73, 74, 39, 40, 41, 47, 42, 43, 44, 45, 49, 12, 14, 25, 59, 26, 27, 28, 8]
def gbs : List Nat := [0, 1, 2, 3]
abbrev ErrKind : Nat := 0
abbrev ErrShape : Nat := 1
abbrev ErrRange : Nat := 2
abbrev ErrMany : Nat := 3

noncomputable def E : Eng.Env := mkEnv Tryd.prog nms tys fns gbs

set_option maxRecDepth 100000 in
theorem tys_ok : TysOK Tryd.prog nms tys := ⟨by kernel_rfl, by kernel_rfl, by kernel_rfl, by kernel_rfl, by kernel_rfl, by kernel_rfl, by kernel_rfl, by kernel_rfl, by kernel_rfl, by kernel_rfl, by kernel_rfl, by kernel_rfl, by kernel_rfl, by kernel_rfl, by kernel_rfl, by kernel_rfl, by kernel_rfl, trivial⟩
theorem E_ok : EnvOK Tryd.prog E := mkEnv_ok tys_ok.mem (fnsOK.mem (by kernel_rfl))
theorem mixed : Tryd.prog.follows .mixedOrders = true := by kernel_rfl

end Go.Proofs.YtnblnlanicpagaaDoor.Lg
