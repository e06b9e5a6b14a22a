/-
  The tables of the seat's program.
-/
import Derived.Test.YtohkmbpdjigjdaaDoorLgEngZd
import Derived.Test.YtohkmbpdjigjdaaDoorProg
import Derived.KernelRfl
namespace Go.Proofs.YtohkmbpdjigjdaaDoor.Lg
open Go Go.Eng Go.Proofs

def nms : Names := ⟨128, 112⟩

def tys : List (TypeId × TyI) := [
  (2, ⟨.int .i64, 1, 8, [.v (.int .i64 0)], some (.int .i64), none⟩),
  (3, ⟨.int .i64, 1, 8, [.v (.int .i64 0)], some (.int .i64), none⟩),
  (4, ⟨.bool, 1, 1, [.v (.bool false)], some .bool, none⟩),
  (21, ⟨.int .i32, 1, 4, [.v (.int .i32 0)], some (.int .i32), none⟩),
  (22, ⟨.float .f64, 1, 8, [.v (.float .f64 0)], some .flt, none⟩),
  (24, ⟨.slice 3, 1, 24, [.v (.slice none 0 0)], some (.sl (.int .i64)), none⟩),
  (26, ⟨.struct [(24, 0, 1), (4, 1, 1)], 2, 32, [.v (.slice none 0 0), .v (.bool false)], some (.st (.pair (.sl (.int .i64)) .bool)), none⟩),
  (28, ⟨.struct [(26, 0, 2), (24, 2, 1)], 3, 56, [.v (.slice none 0 0), .v (.bool false), .v (.slice none 0 0)], some (.st (.pair (.st (.pair (.sl (.int .i64)) .bool)) (.sl (.int .i64)))), none⟩),
  (30, ⟨.iface, 1, 16, [.v (.nilIface)], some .err, none⟩),
  (47, ⟨.slice 28, 1, 24, [.v (.slice none 0 0)], some (.sl (.st (.pair (.st (.pair (.sl (.int .i64)) .bool)) (.sl (.int .i64))))), none⟩),
  (49, ⟨.struct [(3, 0, 1), (4, 1, 1), (3, 2, 1)], 3, 24, [.v (.int .i64 0), .v (.bool false), .v (.int .i64 0)], some (.st (.pair (.int .i64) (.pair .bool (.int .i64)))), none⟩),
  (57, ⟨.slice 26, 1, 24, [.v (.slice none 0 0)], some (.sl (.st (.pair (.sl (.int .i64)) .bool))), none⟩),
  (75, ⟨.slice 93, 1, 24, [.v (.slice none 0 0)], some (.sl (.clo 72 (.ref (.st (.pair (.st (.pair (.sl (.int .i64)) .bool)) (.sl (.int .i64))))))), none⟩),
  (93, ⟨.other, 1, 8, [.v (.nilFunc)], none, some (.clo 72 (.ref (.st (.pair (.st (.pair (.sl (.int .i64)) .bool)) (.sl (.int .i64))))))⟩),
  (112, ⟨.ptr 116, 1, 8, [.v (.pointer none)], none, none⟩),
  (116, ⟨.struct [(3, 0, 1), (30, 1, 1)], 2, 24, [.v (.int .i64 0), .v (.nilIface)], some (.st (.pair (.int .i64) .err)), none⟩),
  (118, ⟨.int .u32, 1, 4, [.v (.int .u32 0)], some (.int .u32), none⟩),
  (119, ⟨.int .u64, 1, 8, [.v (.int .u64 0)], some (.int .u64), none⟩),
  (122, ⟨.int .u64, 1, 8, [.v (.int .u64 0)], some (.int .u64), none⟩),
  (125, ⟨.slice 30, 1, 24, [.v (.slice none 0 0)], some (.sl .err), none⟩)]

def fns : List Nat := [59, 60, 62, 61, 30, 63, 31, 10, 51, 70, 40, 96, 69, 91, 89, 104, 90, 52, 24, 39, 72, 42, 97, 71, 58, 41, 36, 15, 29, 9, 64, 32, 38, 37, 73, 56, 33, 65, 66, 67, 68, 34, 11, 35, 48, 102, 103, 88, 75, 50, 49, 23, 12, 26, 13, 3]
def gbs : List Nat := [0, 1, 2, 3, 5, 6, 7, 8, 9, 10, 11, 12, 13, 14, 15, 16, 17, 18, 19, 20, 21]
abbrev ErrRange : Nat := 0
abbrev ErrKind : Nat := 1
abbrev ErrShape : Nat := 2
abbrev ErrMany : Nat := 3
abbrev ErrEnd : Nat := 5
abbrev ErrRoom : Nat := 6
abbrev ErrNone : Nat := 7
abbrev ErrAlias : Nat := 8
abbrev ErrCost : Nat := 9
abbrev ErrJump : Nat := 10
abbrev ErrCycle : Nat := 11
abbrev ErrFuel : Nat := 12
abbrev ErrFull : Nat := 13
abbrev ErrQuota : Nat := 14
abbrev ErrCap : Nat := 15
abbrev ErrStale : Nat := 16
abbrev ErrTag : Nat := 17
abbrev ErrOld : Nat := 18
abbrev ErrTenant : Nat := 19
abbrev ErrWord : Nat := 20
abbrev ErrNumber : Nat := 21

def exts : List (FuncId × ExtK) := [(93, .bits), (94, .frombits), (95, .even)]
noncomputable def E : Eng.Env := mkEnvX Tryd.prog nms tys fns gbs exts

set_option maxRecDepth 100000 in
theorem tys_ok : TysOK Tryd.prog nms tys := ⟨by kernel_rfl, by kernel_rfl, by kernel_rfl, by kernel_rfl, by kernel_rfl, by kernel_rfl, by kernel_rfl, by kernel_rfl, by kernel_rfl, by kernel_rfl, by kernel_rfl, by kernel_rfl, by kernel_rfl, by kernel_rfl, by kernel_rfl, by kernel_rfl, by kernel_rfl, by kernel_rfl, by kernel_rfl, by kernel_rfl, trivial⟩
theorem E_ok : EnvOK Tryd.prog E := mkEnvX_ok (mkEnv_ok tys_ok.mem (fnsOK.mem (by kernel_rfl))) (.cons (⟨Tryd.f93, by kernel_rfl, by kernel_rfl, by kernel_rfl, by kernel_rfl, by kernel_rfl⟩) (.cons (⟨Tryd.f94, by kernel_rfl, by kernel_rfl, by kernel_rfl, by kernel_rfl, by kernel_rfl⟩) (.cons (⟨Tryd.f95, by kernel_rfl, by kernel_rfl, by kernel_rfl, by kernel_rfl, by kernel_rfl⟩) (.nil))))
theorem mixed : Tryd.prog.follows .mixedOrders = true := by kernel_rfl

end Go.Proofs.YtohkmbpdjigjdaaDoor.Lg
