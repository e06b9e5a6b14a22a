/-
  The tables of the seat's program.
-/
import Derived.Test.YtooocaciaflbdaaDoorLgEngZd
import Derived.Test.YtooocaciaflbdaaDoorProg
import Derived.KernelRfl
namespace Go.Proofs.YtooocaciaflbdaaDoor.Lg
open Go Go.Eng Go.Proofs

def nms : Names := ⟨105, 83⟩

def tys : List (TypeId × TyI) := [
  (3, ⟨.int .i64, 1, 8, [.v (.int .i64 0)], some (.int .i64)⟩),
  (4, ⟨.bool, 1, 1, [.v (.bool false)], some .bool⟩),
  (21, ⟨.int .i32, 1, 4, [.v (.int .i32 0)], some (.int .i32)⟩),
  (22, ⟨.slice 3, 1, 24, [.v (.slice none 0 0)], some (.sl (.int .i64))⟩),
  (26, ⟨.struct [(22, 0, 1), (4, 1, 1)], 2, 32, [.v (.slice none 0 0), .v (.bool false)], some (.st (.pair (.sl (.int .i64)) .bool))⟩),
  (28, ⟨.struct [(26, 0, 2), (22, 2, 1)], 3, 56, [.v (.slice none 0 0), .v (.bool false), .v (.slice none 0 0)], some (.st (.pair (.st (.pair (.sl (.int .i64)) .bool)) (.sl (.int .i64))))⟩),
  (32, ⟨.iface, 1, 16, [.v (.nilIface)], some .err⟩),
  (43, ⟨.struct [(3, 0, 1), (4, 1, 1), (3, 2, 1)], 3, 24, [.v (.int .i64 0), .v (.bool false), .v (.int .i64 0)], some (.st (.pair (.int .i64) (.pair .bool (.int .i64))))⟩),
  (46, ⟨.slice 28, 1, 24, [.v (.slice none 0 0)], some (.sl (.st (.pair (.st (.pair (.sl (.int .i64)) .bool)) (.sl (.int .i64)))))⟩),
  (57, ⟨.other, 1, 8, [.v (.nilFunc)], none⟩),
  (65, ⟨.slice 26, 1, 24, [.v (.slice none 0 0)], some (.sl (.st (.pair (.sl (.int .i64)) .bool)))⟩),
  (79, ⟨.int .u32, 1, 4, [.v (.int .u32 0)], some (.int .u32)⟩),
  (80, ⟨.int .u64, 1, 8, [.v (.int .u64 0)], some (.int .u64)⟩),
  (83, ⟨.ptr 85, 1, 8, [.v (.pointer none)], none⟩),
  (85, ⟨.struct [(3, 0, 1), (32, 1, 1)], 2, 24, [.v (.int .i64 0), .v (.nilIface)], some (.st (.pair (.int .i64) .err))⟩),
  (101, ⟨.slice 32, 1, 24, [.v (.slice none 0 0)], some (.sl .err)⟩),
  (104, ⟨.int .u64, 1, 8, [.v (.int .u64 0)], some (.int .u64)⟩)]

def fns : List Nat := [42, 51, 27, 52, 31, 70, 43, 18, 25, 26, 11, 12, 7, 34, 16, 53, 38, 50, 54, 41, 55, 35, 37, 56, 44, 23, 10, 63, 45, 57, 58, 59, 46, 19, 60, 61, 62, 36, 39, 65, 69, 72, 73, 64, 66, 74, 67, 68, 40, 17, 14, 75, 76, 71, 48, 47, 20, 21, 22, 29, 28, 30, 13, 49, 24, 6]
def gbs : List Nat := [0, 1, 2, 3, 4, 5, 6, 7, 8, 9, 10, 11, 12, 13, 14, 15, 16, 17, 18, 19, 20]
abbrev ErrShape : Nat := 0
abbrev ErrRange : Nat := 1
abbrev ErrMany : Nat := 2
abbrev ErrKind : Nat := 3
abbrev ErrEnd : Nat := 4
abbrev ErrRoom : Nat := 5
abbrev ErrNone : Nat := 6
abbrev ErrAlias : Nat := 7
abbrev ErrCost : Nat := 8
abbrev ErrJump : Nat := 9
abbrev ErrCycle : Nat := 10
abbrev ErrFuel : Nat := 11
abbrev ErrFull : Nat := 12
abbrev ErrQuota : Nat := 13
abbrev ErrCap : Nat := 14
abbrev ErrStale : Nat := 15
abbrev ErrTag : Nat := 16
abbrev ErrOld : Nat := 17
abbrev ErrTenant : Nat := 18
abbrev ErrWord : Nat := 19
abbrev ErrNumber : Nat := 20

noncomputable def E : Eng.Env := mkEnv Tryd.prog nms tys fns gbs

set_option maxRecDepth 100000 in
theorem tys_ok : TysOK Tryd.prog nms tys := ⟨by kernel_rfl, by kernel_rfl, by kernel_rfl, by kernel_rfl, by kernel_rfl, by kernel_rfl, by kernel_rfl, by kernel_rfl, by kernel_rfl, by kernel_rfl, by kernel_rfl, by kernel_rfl, by kernel_rfl, by kernel_rfl, by kernel_rfl, by kernel_rfl, by kernel_rfl, trivial⟩
theorem E_ok : EnvOK Tryd.prog E := mkEnv_ok tys_ok.mem (fnsOK.mem (by kernel_rfl))
theorem mixed : Tryd.prog.follows .mixedOrders = true := by kernel_rfl

end Go.Proofs.YtooocaciaflbdaaDoor.Lg
