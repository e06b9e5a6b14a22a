/-
  The tables of the seat's program.
-/
import Derived.Test.YtnblnlanicpagaaDoorLgEngZd
import Derived.Test.YtnblnlanicpagaaDoorProg
import Derived.KernelRfl
namespace Go.Proofs.YtnblnlanicpagaaDoor.Lg
open Go Go.Eng Go.Proofs

def nms : Names := ⟨124, 93⟩

def tys : List (TypeId × TyI) := [
  (3, ⟨.int .i64, 1, 8, [.v (.int .i64 0)], some (.int .i64), none⟩),
  (4, ⟨.bool, 1, 1, [.v (.bool false)], some .bool, none⟩),
  (22, ⟨.slice 3, 1, 24, [.v (.slice none 0 0)], some (.sl (.int .i64)), none⟩),
  (23, ⟨.slice 27, 1, 24, [.v (.slice none 0 0)], some (.sl (.st (.pair (.sl (.int .i64)) .bool))), none⟩),
  (27, ⟨.struct [(22, 0, 1), (4, 1, 1)], 2, 32, [.v (.slice none 0 0), .v (.bool false)], some (.st (.pair (.sl (.int .i64)) .bool)), none⟩),
  (29, ⟨.iface, 1, 16, [.v (.nilIface)], some .err, none⟩),
  (78, ⟨.struct [(3, 0, 1), (4, 1, 1), (3, 2, 1)], 3, 24, [.v (.int .i64 0), .v (.bool false), .v (.int .i64 0)], some (.st (.pair (.int .i64) (.pair .bool (.int .i64)))), none⟩),
  (93, ⟨.ptr 95, 1, 8, [.v (.pointer none)], none, none⟩),
  (95, ⟨.struct [(3, 0, 1), (29, 1, 1)], 2, 24, [.v (.int .i64 0), .v (.nilIface)], some (.st (.pair (.int .i64) .err)), none⟩),
  (118, ⟨.slice 29, 1, 24, [.v (.slice none 0 0)], some (.sl .err), none⟩)]

def fns : List Nat := [20, 21, 30, 60, 63, 62, 31, 32, 33, 65, 70, 85, 67, 64, 34, 78, 56, 35, 36, 66, 69, 68, 37, 11, 13, 9, 10, 38, 46, 71, 24, 16, 48, 72, 73, 74, 39, 40, 41, 47, 42, 43, 44, 45, 49, 12, 14, 51, 86, 95, 96, 87, 88, 76, 75, 50, 15, 3]
def gbs : List Nat := [0, 1, 2, 3, 4, 5, 6, 7, 8, 9, 10, 11, 12, 13, 14, 15, 16, 17, 18, 19, 20]
abbrev ErrKind : Nat := 0
abbrev ErrShape : Nat := 1
abbrev ErrRange : Nat := 2
abbrev ErrMany : Nat := 3
abbrev ErrEnd : Nat := 4
abbrev ErrRoom : Nat := 5
abbrev ErrNone : Nat := 6
abbrev ErrAlias : Nat := 7
abbrev ErrCost : Nat := 8
abbrev ErrJump : Nat := 9
abbrev ErrCycle : Nat := 10
abbrev ErrFuel : Nat := 11
abbrev ErrFull : Nat := 12
abbrev ErrQuota : Nat := 13
abbrev ErrCap : Nat := 14
abbrev ErrStale : Nat := 15
abbrev ErrTag : Nat := 16
abbrev ErrOld : Nat := 17
abbrev ErrTenant : Nat := 18
abbrev ErrWord : Nat := 19
abbrev ErrNumber : Nat := 20

noncomputable def E : Eng.Env := mkEnv Tryd.prog nms tys fns gbs

set_option maxRecDepth 100000 in
theorem tys_ok : TysOK Tryd.prog nms tys := ⟨by kernel_rfl, by kernel_rfl, by kernel_rfl, by kernel_rfl, by kernel_rfl, by kernel_rfl, by kernel_rfl, by kernel_rfl, by kernel_rfl, by kernel_rfl, trivial⟩
theorem E_ok : EnvOK Tryd.prog E := mkEnv_ok tys_ok.mem (fnsOK.mem (by kernel_rfl))
theorem mixed : Tryd.prog.follows .mixedOrders = true := by kernel_rfl

end Go.Proofs.YtnblnlanicpagaaDoor.Lg
