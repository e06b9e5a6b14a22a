/-
  The tables of the seat's program.
-/
import Derived.Test.YtnbpgehpjhifgaaDoorLxEngZc
import Derived.Test.YtnbpgehpjhifgaaDoorProg
import Derived.KernelRfl
import Derived.Test.YtnbpgehpjhifgaaDoorLxArenaI24
import Derived.Test.YtnbpgehpjhifgaaDoorLxArenaI25
import Derived.Test.YtnbpgehpjhifgaaDoorLxArenaD30
import Derived.Test.YtnbpgehpjhifgaaDoorLxArenaR31
namespace Go.Proofs.YtnbpgehpjhifgaaDoor.Lx
open Go Go.Eng Go.Proofs

def nms : Names := ⟨101, 90⟩

def tys : List (TypeId × TyI) := [
  (3, ⟨.int .i64, 1, 8, [.v (.int .i64 0)], some (.int .i64), none⟩),
  (4, ⟨.bool, 1, 1, [.v (.bool false)], some .bool, none⟩),
  (5, ⟨.int .u8, 1, 1, [.v (.int .u8 0)], some (.int .u8), none⟩),
  (24, ⟨.ptr 59, 1, 8, [.v (.pointer none)], some (.hd 0), none⟩),
  (26, ⟨.iface, 1, 16, [.v (.nilIface)], some .err, none⟩),
  (30, ⟨.struct [(3, 0, 1), (3, 1, 1), (3, 2, 1)], 3, 24, [.v (.int .i64 0), .v (.int .i64 0), .v (.int .i64 0)], some (.st (.pair (.int .i64) (.pair (.int .i64) (.int .i64)))), none⟩),
  (39, ⟨.slice 3, 1, 24, [.v (.slice none 0 0)], some (.sl (.int .i64)), none⟩),
  (40, ⟨.slice 30, 1, 24, [.v (.slice none 0 0)], some (.sl (.st (.pair (.int .i64) (.pair (.int .i64) (.int .i64))))), none⟩),
  (44, ⟨.slice 47, 1, 24, [.v (.slice none 0 0)], some (.sl (.st (.pair (.int .i64) (.pair (.int .i64) (.pair (.int .i64) (.pair (.int .i64) (.sl (.int .u8)))))))), none⟩),
  (45, ⟨.slice 5, 1, 24, [.v (.slice none 0 0)], some (.sl (.int .u8)), none⟩),
  (47, ⟨.struct [(3, 0, 1), (3, 1, 1), (3, 2, 1), (3, 3, 1), (45, 4, 1)], 5, 56, [.v (.int .i64 0), .v (.int .i64 0), .v (.int .i64 0), .v (.int .i64 0), .v (.slice none 0 0)], some (.st (.pair (.int .i64) (.pair (.int .i64) (.pair (.int .i64) (.pair (.int .i64) (.sl (.int .u8))))))), none⟩),
  (57, ⟨.slice 60, 1, 24, [.v (.slice none 0 0)], some (.sl (.hd 1)), none⟩),
  (59, ⟨.struct [(45, 0, 1), (57, 1, 1)], 2, 48, [.v (.slice none 0 0), .v (.slice none 0 0)], some (.st (.pair (.sl (.int .u8)) (.sl (.hd 1)))), none⟩),
  (60, ⟨.ptr 64, 1, 8, [.v (.pointer none)], some (.hd 1), none⟩),
  (62, ⟨.slice 66, 1, 24, [.v (.slice none 0 0)], some (.sl (.st (.pair (.int .i64) (.int .i64)))), none⟩),
  (64, ⟨.struct [(30, 0, 3), (62, 3, 1)], 4, 48, [.v (.int .i64 0), .v (.int .i64 0), .v (.int .i64 0), .v (.slice none 0 0)], some (.st (.pair (.st (.pair (.int .i64) (.pair (.int .i64) (.int .i64)))) (.sl (.st (.pair (.int .i64) (.int .i64)))))), none⟩),
  (66, ⟨.struct [(3, 0, 1), (3, 1, 1)], 2, 16, [.v (.int .i64 0), .v (.int .i64 0)], some (.st (.pair (.int .i64) (.int .i64))), none⟩),
  (73, ⟨.struct [(3, 0, 1), (4, 1, 1), (3, 2, 1)], 3, 24, [.v (.int .i64 0), .v (.bool false), .v (.int .i64 0)], some (.st (.pair (.int .i64) (.pair .bool (.int .i64)))), none⟩),
  (76, ⟨.other, 1, 8, [.v (.nilFunc)], none, none⟩),
  (79, ⟨.other, 1, 8, [.v (.nilFunc)], none, none⟩),
  (90, ⟨.ptr 94, 1, 8, [.v (.pointer none)], none, none⟩),
  (94, ⟨.struct [(3, 0, 1), (26, 1, 1)], 2, 24, [.v (.int .i64 0), .v (.nilIface)], some (.st (.pair (.int .i64) .err)), none⟩),
  (98, ⟨.slice 26, 1, 24, [.v (.slice none 0 0)], some (.sl .err), none⟩)]

def fns : List Nat := [9, 22, 23, 10, 11, 29, 28, 14, 7, 8, 27, 46, 51, 52, 47, 48, 42, 41, 26, 12, 36, 35, 20, 13, 3, 15, 32, 16, 4, 33, 17, 34, 18, 19, 5, 21, 6]
def gbs : List Nat := [0, 1, 2, 3, 4, 5, 6, 7, 8, 9, 10, 11, 12, 13, 14, 15, 16, 17, 18, 19, 20]
abbrev ErrRange : Nat := 0
abbrev ErrRoom : Nat := 1
abbrev ErrNone : Nat := 2
abbrev ErrShape : Nat := 3
abbrev ErrKind : Nat := 4
abbrev ErrMany : Nat := 5
abbrev ErrEnd : Nat := 6
abbrev ErrAlias : Nat := 7
abbrev ErrCost : Nat := 8
abbrev ErrJump : Nat := 9
abbrev ErrCycle : Nat := 10
abbrev ErrFuel : Nat := 11
abbrev ErrFull : Nat := 12
abbrev ErrQuota : Nat := 13
abbrev ErrCap : Nat := 14
abbrev ErrStale : Nat := 15
abbrev ErrTag : Nat := 16
abbrev ErrOld : Nat := 17
abbrev ErrTenant : Nat := 18
abbrev ErrWord : Nat := 19
abbrev ErrNumber : Nat := 20

def exts : List (FuncId × ExtK) := []
def knds : List (List Cell) := [[.sl (.int .u8), .sl (.hd 1)], [.d (.int .i64), .d (.int .i64), .d (.int .i64), .sl (.st (.pair (.int .i64) (.int .i64)))]]
def kts : List (TypeId × Nat) := [(59, 0), (64, 1)]
def kss : List (FuncId × List Nat) := [(9, [0, 1]), (22, [0, 1]), (10, [0, 1]), (11, [0, 1]), (14, [0, 1]), (7, [0, 1]), (35, [0, 1]), (20, [0, 1]), (13, [0, 1]), (3, [0, 1]), (15, [0, 1]), (32, [1]), (16, [0, 1]), (4, [0, 1]), (33, [0, 1]), (17, [0, 1]), (18, [0, 1]), (19, [0, 1]), (5, [0, 1]), (6, [0, 1])]
def lsts : List (FuncId × LstK) := [(24, .ins 1 8), (25, .ins 2 16), (30, .del 2), (31, .fil 32 1)]
noncomputable def E : Eng.Env := mkEnvK Tryd.prog nms tys fns gbs exts knds kts kss lsts

set_option maxRecDepth 100000 in
theorem tys_ok : TysOK Tryd.prog nms tys := ⟨by kernel_rfl, by kernel_rfl, by kernel_rfl, by kernel_rfl, by kernel_rfl, by kernel_rfl, by kernel_rfl, by kernel_rfl, by kernel_rfl, by kernel_rfl, by kernel_rfl, by kernel_rfl, by kernel_rfl, by kernel_rfl, by kernel_rfl, by kernel_rfl, by kernel_rfl, by kernel_rfl, by kernel_rfl, by kernel_rfl, by kernel_rfl, by kernel_rfl, by kernel_rfl, trivial⟩
theorem E_ok : EnvOK Tryd.prog E := mkEnvK_ok (mkEnvX_ok (mkEnv_ok tys_ok.mem (fnsOK.mem (by kernel_rfl))) (.nil)) (by kernel_rfl) (.cons ⟨_, Tryd.func24, by kernel_rfl, by kernel_rfl⟩ LxLst.I24.ok (.cons ⟨_, Tryd.func25, by kernel_rfl, by kernel_rfl⟩ LxLst.I25.ok (.cons ⟨_, Tryd.func30, by kernel_rfl, by kernel_rfl⟩ LxLst.D30.ok (.cons ⟨_, Tryd.func31, by kernel_rfl, by kernel_rfl⟩ LxLst.R31.ok (.nil)))))
theorem mixed : Tryd.prog.follows .mixedOrders = true := by kernel_rfl

end Go.Proofs.YtnbpgehpjhifgaaDoor.Lx
