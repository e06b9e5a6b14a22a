/-
  Texts of the proof, one behind the other.
-/
import Derived.Calls

/-
  The abstract machine, part 1: plain data by type, values, what an operation reads and makes.
-/
namespace Go.Eng

/-- An error as plain data: none, one of the program's, or one with a place around it. -/
inductive Er where
  | nil
  | s (g : Nat)
  | at (pos : Int) (g : Nat)
  deriving DecidableEq, Inhabited

/-- The types of plain data. ('ref': a pointer to what nobody changes; 'clo': a closure of one function over such; 'nat': a count, no data of the program's.) -/
inductive Ty where
  | int (k : IntKind)
  | bool | str | flt | err | unit | nat
  | pair (a b : Ty)
  | st (a : Ty)
  | sl (a : Ty)
  | ref (a : Ty)
  | clo (f : FuncId) (c : Ty)
  | hd (k : Nat)                     -- a pointer to an object of a kind, or none
  | mh (k : Nat)                     -- a map of a kind, or none
  | dy (t : TypeId) (a r : Ty)       -- a value of an interface: of this type, or one of the rest
  | dn                               -- … none
  deriving DecidableEq, Inhabited

/-- A block of the heap: one by its number, or what belongs to an object: its variable (0), or a slice of its own (1 ..). -/
inductive Ref where
  | l (id : Nat)
  | o (k i q : Nat)
  deriving DecidableEq, Inhabited

/-- where in the heap it is kept -/
def Ref.ix : Ref → Nat
  | .l id => id
  | .o k _ _ => k

/-- an object's variable -/
def Ref.isBox : Ref → Prop
  | .o _ _ 0 => True
  | _ => False

@[reducible] def Val : Ty → Type
  | .int _ => Int
  | .bool => Bool
  | .str => ByteArray
  | .flt => Nat
  | .err => Er
  | .unit => Unit
  | .nat => Nat
  | .pair a b => Val a × Val b
  | .st a => Val a
  | .sl a => List (Val a)
  | .ref a => Val a
  | .clo _ c => Val c
  | .hd _ => Option Nat
  | .mh _ => Option Nat
  | .dy _ a r => Sum (Val a) (Val r)
  | .dn => Unit

/-- nothings -/
def dfl : (t : Ty) → Val t
  | .int _ => (0 : Int)
  | .bool => false
  | .str => ByteArray.empty
  | .flt => (0 : Nat)
  | .err => Er.nil
  | .unit => ()
  | .nat => (0 : Nat)
  | .pair a b => (dfl a, dfl b)
  | .st a => dfl a
  | .sl a => ([] : List (Val a))
  | .ref a => dfl a
  | .clo _ c => dfl c
  | .hd _ => (none : Option Nat)
  | .mh _ => (none : Option Nat)
  | .dy _ _ r => Sum.inr (dfl r)
  | .dn => ()

/-- how many cells -/
def Ty.size : Ty → Nat
  | .unit | .nat => 0
  | .pair a b => a.size + b.size
  | .st a => a.size
  | _ => 1

inductive AV where
  | v (x : Value)                          -- an atom
  | er (e : Er)
  | agg (l : List AV)
  | tup (l : List AV)
  | isl (t : Ty) (l : List (Val t))        -- a slice that nobody changes
  | nsl (t : Ty) (l : List (Val t))        -- … that is not nil
  | iptr (row : List AV) (j : Nat)         -- a pointer into what nobody changes
  | gptr (g j : Nat)                       -- into a package-level variable
  | lsl (t : Ty) (id : Ref) (i n gen : Nat) -- a slice of a block of this call's own
  | lptr (id : Ref) (i j gen : Nat)        -- a pointer into one
  | hd (k : Nat) (x : Option Nat)          -- a pointer to an object, or none
  | mh (k : Nat) (x : Option Nat)          -- a map, or none
  | dy (t : Ty) (x : Val t)                -- a value of an interface, of a type that is not known
  | iface (t : TypeId) (x : AV)
  | fn (f : Fn) (first cap : List AV)
  | top                                    -- whatever

instance : Inhabited AV := ⟨.top⟩

/-- data's cells -/
def cellsT : (t : Ty) → Val t → List AV
  | .int k, n => [.v (.int k n)]
  | .bool, b => [.v (.bool b)]
  | .str, s => [.v (.string s)]
  | .flt, b => [.v (.float .f64 b)]
  | .err, e => [.er e]
  | .unit, _ => []
  | .nat, _ => []
  | .pair a b, p => cellsT a p.1 ++ cellsT b p.2
  | .st a, x => cellsT a x
  | .sl a, l => [.isl a l]
  | .ref a, x => [.iptr (cellsT a x) 0]
  | .clo f c, x => [.fn (.func f) [] (cellsT c x)]
  | .hd k, x => [.hd k x]
  | .mh k, x => [.mh k x]
  | .dy t a r, x => [.dy (.dy t a r) x]
  | .dn, _ => [.v .nilIface]

def Ty.isAgg : Ty → Bool
  | .st _ => true
  | _ => false

/-- data as one value -/
def encA (t : Ty) (x : Val t) : AV := match t.isAgg with
  | true => .agg (cellsT t x)
  | false => (cellsT t x).headD .top

def sameK : IntKind → IntKind → Bool
  | .i8, .i8 | .i16, .i16 | .i32, .i32 | .i64, .i64 | .u8, .u8 | .u16, .u16 | .u32, .u32 | .u64, .u64 => true
  | _, _ => false

structure Names where
  errT : TypeId                      -- the type of the program's errors
  atT : TypeId                       -- the type of errors with a place

/-- an error's cell read as data -/
def decE (N : Names) : AV → Option Er
  | .er e => some e
  | .v .nilIface => some .nil
  | .iface t (.iptr [.v (.int .i64 p), .er (.s g)] 0) => if t = N.atT then some (.at p g) else none
  | _ => none

def decI (k : IntKind) : List AV → Option (Int × List AV)
  | .v (.int k' n) :: r => match sameK k k' with
    | true => some (n, r)
    | false => none
  | _ => none
def decB : List AV → Option (Bool × List AV)
  | .v (.bool b) :: r => some (b, r)
  | _ => none
def decS : List AV → Option (ByteArray × List AV)
  | .v (.string s) :: r => some (s, r)
  | _ => none
def decF : List AV → Option (Nat × List AV)
  | .v (.float .f64 b) :: r => some (b, r)
  | _ => none
def decEr (N : Names) : List AV → Option (Er × List AV)
  | x :: r => match decE N x with
    | some e => some (e, r)
    | none => none
  | [] => none
def castL {a b : Ty} (h : a = b) (l : List (Val a)) : List (Val b) := h ▸ l

def decSl (a : Ty) : List AV → Option (List (Val a) × List AV)
  | .isl b l :: r => if h : b = a then some (castL h l, r) else none
  | .v (.slice none 0 0) :: r => some ([], r)
  | _ => none
def decRef : List AV → Option (List AV × List AV)
  | .iptr row 0 :: r => some (row, r)
  | _ => none
def decClo (f : FuncId) : List AV → Option (List AV × List AV)
  | .fn (.func g) [] cap :: r => if g = f then some (cap, r) else none
  | _ => none

def decHd (k : Nat) : List AV → Option (Option Nat × List AV)
  | .hd k' x :: r => match decide (k' = k) with
    | true => some (x, r)
    | false => none
  | .v (.pointer none) :: r => some (none, r)
  | _ => none

def decMh (k : Nat) : List AV → Option (Option Nat × List AV)
  | .mh k' x :: r => match decide (k' = k) with
    | true => some (x, r)
    | false => none
  | .v (.map none) :: r => some (none, r)
  | _ => none

/-- does it stand for one cell? -/
def AV.isCell : AV → Bool
  | .v (.agg _) | .v (.tuple _) => false
  | .agg _ | .tup _ | .top => false
  | _ => true


/-- of one cell -/
def Ty.one : Ty → Bool
  | .int _ | .bool | .str | .flt | .err | .sl _ | .ref _ | .clo _ _ | .hd _ | .mh _ | .dy _ _ _ | .dn => true
  | _ => false

def castV {a b : Ty} (h : a = b) (x : Val a) : Val b := h ▸ x

/-- cells read as data; what is left of them -/
def decT (N : Names) : (t : Ty) → List AV → Option (Val t × List AV)
  | .int k, l => decI k l
  | .bool, l => decB l
  | .str, l => decS l
  | .flt, l => decF l
  | .err, l => decEr N l
  | .unit, l => some ((), l)
  | .nat, _ => none
  | .pair a b, l => match decT N a l with
    | some (x, r) => match decT N b r with
      | some (y, r') => some ((x, y), r')
      | none => none
    | none => none
  | .st a, l => decT N a l
  | .sl a, l => decSl a l
  | .ref a, l => match decRef l with
    | some (row, r) => match decT N a row with
      | some (x, []) => some (x, r)
      | _ => none
    | none => none
  | .clo f c, l => match decClo f l with
    | some (cap, r) => match decT N c cap with
      | some (x, []) => some (x, r)
      | _ => none
    | none => none
  | .hd k, l => decHd k l
  | .mh k, l => decMh k l
  | .dn, l => match l with
    | .v .nilIface :: r => some ((), r)
    | _ => none
  | .dy u a q, l => match l with
    | .dy t' y :: r => if h : t' = .dy u a q then some (castV h y, r) else none
    | .iface v z :: r => match Nat.beq v u with
      | true => match a.isAgg, z with
        | true, .agg l' => match decT N a l' with
          | some (y, []) => some (.inl y, r)
          | _ => none
        | false, z => match a.one && z.isCell, decT N a [z] with
          | true, some (y, []) => some (.inl y, r)
          | _, _ => none
        | _, _ => none
      | false => match Nat.beq q.size 1, decT N q (.iface v z :: r) with
        | true, some (y, r') => some (.inr y, r')
        | _, _ => none
    | .v .nilIface :: r => match Nat.beq q.size 1, decT N q (.v .nilIface :: r) with
      | true, some (y, r') => some (.inr y, r')
      | _, _ => none
    | _ => none

def AV.cells : AV → Option (List AV)
  | .agg l => some l
  | .tup _ => none
  | .top => none
  | .v (.agg _) => none
  | .v (.tuple _) => none
  | x => some [x]

/-- one value read as data -/
def decA (N : Names) (t : Ty) (x : AV) : Option (Val t) := match x.cells with
  | some cs => match decT N t cs with
    | some (y, []) => some y
    | _ => none
  | none => none

/-- what lies in a variable of the call's own -/
inductive Cell where
  | d (t : Ty)         -- plain data
  | sl (t : Ty)        -- a slice of the call's own
  deriving DecidableEq, Inhabited

def rowsTy : List Cell → Ty
  | [] => .unit
  | .d t :: r => .pair t (rowsTy r)
  | .sl t :: r => .pair (.sl t) (rowsTy r)

/-- what a block bears: a variable's cells, or a slice's elements; or all objects of a kind: their rows, which slices of which ones are taken away, how often slices were turned -/
inductive Ct where
  | box (row : List AV)
  | sl (t : Ty) (l : List (Val t))
  | tab (cs : List Cell) (l : List (Val (rowsTy cs))) (st : List (Nat × Nat)) (gs : List Nat)
  | mp (a b : Ty) (l : List (Val a × (Val b × Nat))) (clk : Nat)     -- a map's entries, each with when it was laid in; its clock

structure Blk where
  ct : Ct
  gen : Nat
  frozen : Bool

/-- what functions answer: a value, and the blocks that are the caller's own from then on, and the objects as they are then -/
abbrev CallF := FuncId → List AV → List Blk → Nat → Option (AV × List Blk × List (Nat × Blk))

/-- what an operation reads of the heap, asks and calls, and what it answers -/
inductive HM (α : Type) where
  | ret (a : α)
  | rd (id : Ref) (k : Blk → HM α)
  | chk (b : Bool) (k : HM α)
  | dec (b : Bool) (x y : HM α)
  | call (f : FuncId) (args : List AV) (bs : List Blk) (n : Nat) (k : AV → List Blk → List (Nat × Blk) → HM α)
  | fail

namespace HM
def bind {α β : Type} : HM α → (α → HM β) → HM β
  | .ret a, f => f a
  | .rd id k, f => .rd id fun b => (k b).bind f
  | .chk b k, f => .chk b (k.bind f)
  | .dec b x y, f => .dec b (x.bind f) (y.bind f)
  | .call g as bs n k, f => .call g as bs n fun r ts wr => (k r ts wr).bind f
  | .fail, _ => .fail
def ofOpt {α : Type} : Option α → HM α
  | some a => .ret a
  | none => .fail
/-- the answer, and the places read -/
def run {α : Type} (call : CallF) (h : Ref → Option Blk) : HM α → Option (α × List Nat)
  | .ret a => some (a, [])
  | .rd id k => match h id with
    | some b => match (k b).run call h with
      | some (a, l) => some (a, id.ix :: l)
      | none => none
    | none => none
  | .chk b k => match b with
    | true => k.run call h
    | false => none
  | .dec b x y => match b with
    | true => x.run call h
    | false => y.run call h
  | .call f as bs n k => match call f as bs n with
    | some (r, ts, wr) => (k r ts wr).run call h
    | none => none
  | .fail => none
end HM

/-- what an operation makes: a value, blocks -/
structure Dl where
  x : AV
  wr : List (Ref × Blk) := []

inductive TD where
  | bool | str | iface | other
  | int (k : IntKind)
  | float (k : FloatKind)
  | ptr (e : TypeId)
  | slice (e : TypeId)
  | arr (n : Nat) (e : TypeId)
  | map (k e : TypeId)
  | struct (fs : List (TypeId × Nat × Nat))   -- each field's type, place and size

structure TyI where
  desc : TD
  size : Nat
  bytes : Nat
  zero : List AV
  ty : Option Ty := none                -- as plain data
  cty : Option Ty := none               -- as what a slice of such is written out with, where its nothing is no such data

structure FnI where
  body : Code
  ntmps : Nat
  results : List ResultVar

/-- functions of the library without a body that are known -/
inductive ExtK where | bits | frombits | even
  deriving DecidableEq, Inhabited

/-- functions that lay bytes behind a slice: a number's, of one or of four; a number's, the lowest first -/
inductive AppK where | put | low
  deriving DecidableEq, Inhabited

/-- functions that lay elements into a slice, or take some out (elements of how many cells, of how many bytes) -/
inductive LstK where
  | ins (sz wd : Nat)
  | del (sz : Nat)
  | fil (g : FuncId) (k : Nat)     -- what points where a variable does, that the closure holds, is taken out
  | app (k : AppK)
  | asE (pt et at_ g rt gs ty : Nat) -- errors.As, for an error with a place (types: of the pointer's pointer, of errors, of those with a place; the variable that it asks, what that holds)
  deriving DecidableEq, Inhabited

structure Env extends Names where
  ty : TypeId → Option TyI
  fn : FuncId → Option FnI
  glob : Nat → Option (List AV)
  ext : FuncId → Option ExtK := fun _ => none
  kind : TypeId → Option (Nat × List Cell) := fun _ => none   -- the types whose variables are objects
  kinds : List (List Cell) := []                              -- … what their rows bear
  ks : FuncId → List Nat := fun _ => []                       -- whose objects a function sees
  lst : FuncId → Option LstK := fun _ => none
  mkind : TypeId → Option Nat := fun _ => none                -- maps' kinds, by their types
  key : TypeId → Option Ty := fun _ => none                   -- the types of maps' keys

def TD.isAgg : TD → Bool
  | .struct _ | .arr _ _ => true
  | _ => false

/-- a row's cells of one type, from j on, as a value -/
def partA (ti : TyI) (row : List AV) (j : Nat) : Option AV :=
  match ti.desc.isAgg with
  | true => if j + ti.size ≤ row.length then some (.agg ((row.drop j).take ti.size)) else none
  | false => row[j]?

def setRow (row : List AV) (j : Nat) : List AV → List AV
  | [] => row
  | x :: r => setRow (row.set j x) (j + 1) r

def fillA (place : Nat → Option (Nat × Nat)) (cells : List AV) : List (Nat × AV) → Option (List AV)
  | [] => some cells
  | (i, v) :: rest =>
    match place i, v.cells with
    | some (off, size), some cs =>
      if cs.length = size ∧ off + size ≤ cells.length then fillA place (setRow cells off cs) rest else none
    | _, _ => none

def AV.int? : AV → Option (IntKind × Int)
  | .v (.int k n) => some (k, n)
  | _ => none

/-- one after the other -/
def mapX (f : AV → HM (AV × List Ref)) : List AV → HM (List AV × List Ref)
  | [] => .ret ([], [])
  | x :: r => (f x).bind fun (x', f1) => (mapX f r).bind fun (r', f') => .ret (x' :: r', f1 ++ f')

/-- the references into this call's own heap are told as values; the blocks that they come to -/
def exportN : Nat → AV → HM (AV × List Ref)
  | 0, _ => .fail
  | n + 1, x => match x with
    | .v y => .ret (.v y, [])
    | .er e => .ret (.er e, [])
    | .isl t l => .ret (.isl t l, [])
    | .nsl t l => .ret (.isl t l, [])
    | .iptr r j => .ret (.iptr r j, [])
    | .gptr g j => .ret (.gptr g j, [])
    | .top => .fail
    | .agg l => (mapX (exportN n) l).bind fun (l', f) => .ret (.agg l', f)
    | .tup l => (mapX (exportN n) l).bind fun (l', f) => .ret (.tup l', f)
    | .iface t y => (exportN n y).bind fun (y', f) => .ret (.iface t y', f)
    | .fn f a c => (mapX (exportN n) a).bind fun (a', f1) => (mapX (exportN n) c).bind fun (c', f2) => .ret (.fn f a' c', f1 ++ f2)
    | .lsl _ id i k gen => .rd id fun b => if gen = b.gen then (match b.ct with
      | .sl t l => .chk (decide (i + k ≤ l.length)) (.ret (.isl t ((l.drop i).take k), [id]))
      | _ => .fail) else .fail
    | .hd k x => .ret (.hd k x, [])
    | .mh k x => .ret (.mh k x, [])
    | .dy t x => .ret (.dy t x, [])
    | .lptr id i j gen => match id with
      | .o k x q => if q = 0 ∧ i = 0 ∧ j = 0 then .ret (.hd k (some x), []) else .fail
      | .l id => .rd (.l id) fun b => if gen = b.gen then (match b.ct with
        | .box r => if i = 0 then (mapX (exportN n) r).bind fun (r', f) => .ret (.iptr r' j, .l id :: f) else .fail
        | .sl t l => .chk (decide (i < l.length)) (.ret (.iptr (cellsT t (l.getD i (dfl t))) j, [.l id]))
        | .tab _ _ _ _ => .fail
        | .mp _ _ _ _ => .fail) else .fail

def exportN.exportL (n : Nat) (l : List AV) : HM (List AV × List Ref) := mapX (exportN n) l

/-- a kind of maps: its row is its clock and the entries -/
def mapL : (cs : List Cell) → Val (rowsTy cs) → Option Ct
  | [.d .nat, .d (.sl (.pair a (.pair b .nat)))], x => some (.mp a b x.2.1 x.1)
  | _, _ => none

def isMapK : List Cell → Bool
  | [.d .nat, .d (.sl (.pair _ (.pair _ .nat)))] => true
  | _ => false

/-- a map's row -/
def mapRow (a b : Ty) (l : List (Val a × (Val b × Nat))) (clk : Nat) : (cs : List Cell) → Option (Val (rowsTy cs))
  | [.d .nat, .d (.sl (.pair a' (.pair b' .nat)))] => if h : Ty.pair a (.pair b .nat) = .pair a' (.pair b' .nat) then some (clk, (castL h l, ())) else none
  | _ => none

theorem mapL_none {cs : List Cell} (h : isMapK cs = false) (x : Val (rowsTy cs)) : mapL cs x = none := by
  unfold mapL
  split
  · cases h
  · rfl
theorem isMapK_of {cs : List Cell} {x : Val (rowsTy cs)} (h : mapL cs x = none) : isMapK cs = false := by
  unfold isMapK
  split
  · cases h
  · rfl
theorem mapL_some {cs : List Cell} {x : Val (rowsTy cs)} {c : Ct} (h : mapL cs x = some c) : ∃ a b l k, c = .mp a b l k := by
  unfold mapL at h
  split at h
  · injection h with h
    exact ⟨_, _, _, _, h.symm⟩
  · cases h

theorem mapRow_mapL {a b : Ty} {l : List (Val a × (Val b × Nat))} {clk : Nat} {cs : List Cell} {x : Val (rowsTy cs)} (h : mapRow a b l clk cs = some x) : mapL cs x = some (.mp a b l clk) := by
  unfold mapRow at h
  split at h
  · split at h
    · rename_i hh
      injection h with h
      injection hh with h1 h2
      injection h2 with h2 _
      subst h1 h2
      subst h
      rfl
    · cases h
  · cases h
theorem mapRow_isMapK {a b : Ty} {l : List (Val a × (Val b × Nat))} {clk : Nat} {cs : List Cell} {x : Val (rowsTy cs)} (h : mapRow a b l clk cs = some x) : isMapK cs = true := by
  cases hm : isMapK cs with
  | true => rfl
  | false =>
    have := mapRow_mapL h
    rw [mapL_none hm] at this
    cases this

end Go.Eng

/-
  The abstract machine, part 2: operations, regions, code.
-/
namespace Go.Eng

def isConst : Operand → Bool
  | .const _ => true
  | _ => false

def Er.isNil : Er → Bool
  | .nil => true
  | _ => false

/-- may two errors be held against each other? (two nils, or two with places, may not) -/
def okEq : Er → Er → Bool
  | .nil, .nil => false
  | .at _ _, .at _ _ => false
  | _, _ => true

/-- '==' of two values (where it is known) -/
def eqA (d : TD) (z c : Bool) (x y : AV) : HM Bool :=
  match d, x, y with
  | .bool, .v (.bool a), .v (.bool b) => .ret (a == b)
  | .iface, .v .nilIface, .v .nilIface => if c then .ret true else .fail
  | .iface, .v .nilIface, .iface _ _ => .ret false
  | .iface, .iface _ _, .v .nilIface => .ret false
  | .iface, .er e, .v .nilIface => if c then .ret e.isNil else .fail
  | .iface, .v .nilIface, .er e => if c then .ret e.isNil else .fail
  | .iface, .er e, .er e' => .chk (okEq e e') (.ret (decide (e = e')))
  | .ptr _, .v (.pointer none), .v (.pointer none) => .ret true
  | .ptr _, .v (.pointer none), .lptr _ _ _ _ => .ret false
  | .ptr _, .lptr _ _ _ _, .v (.pointer none) => .ret false
  | .ptr _, .v (.pointer none), .iptr _ _ => .ret false
  | .ptr _, .iptr _ _, .v (.pointer none) => .ret false
  | .ptr _, .v (.pointer none), .hd _ x => .ret x.isNone
  | .ptr _, .hd _ x, .v (.pointer none) => .ret x.isNone
  | .ptr _, .hd k x, .hd k' y => .rd (.l k) fun b => match b.ct with
    | .tab cs _ _ _ => if z = true ∧ k = k' ∧ isMapK cs = false then .ret (decide (x = y)) else .fail
    | _ => .fail
  | .slice _, .nsl _ _, .v (.slice none 0 0) => .ret false
  | .slice _, .v (.slice none 0 0), .v (.slice none 0 0) => .ret true
  | _, _, _ => .fail

def bitsI (op : BinOp) (k : IntKind) (a b : Int) : Int :=
  k.wrap (match op with
    | .and => BitVec.ofInt k.bits a &&& BitVec.ofInt k.bits b
    | .or => BitVec.ofInt k.bits a ||| BitVec.ofInt k.bits b
    | .xor => BitVec.ofInt k.bits a ^^^ BitVec.ofInt k.bits b
    | _ => BitVec.ofInt k.bits a &&& ~~~BitVec.ofInt k.bits b).toNat

def shlI (k : IntKind) (a b : Int) : Int := k.wrap (a * 2 ^ (min b.toNat k.bits))
def shrI (k : IntKind) (a b : Int) : Int := a.fdiv (2 ^ (min b.toNat k.bits))

def int (k : IntKind) (n : Int) : HM AV := .ret (.v (.int k n))
def bool (b : Bool) : HM AV := .ret (.v (.bool b))

/-- an operation of two whole numbers -/
def binI (op : BinOp) (k k' : IntKind) (a b : Int) : HM AV :=
  match op with
  | .shl => .chk (decide (0 ≤ b)) (int k (shlI k a b))
  | .shr => .chk (decide (0 ≤ b)) (int k (shrI k a b))
  | op => match sameK k k' with
    | false => .fail
    | true => match op with
      | .add => int k (k.wrap (a + b))
      | .sub => int k (k.wrap (a - b))
      | .mul => int k (k.wrap (a * b))
      | .quo => .chk (decide (b ≠ 0)) (int k (k.wrap (a.tdiv b)))
      | .rem => .chk (decide (b ≠ 0)) (int k (a.tmod b))
      | .eql => bool (decide (a = b))
      | .neq => bool (decide (a ≠ b))
      | .lss => bool (decide (a < b))
      | .leq => bool (decide (a ≤ b))
      | .gtr => bool (decide (b < a))
      | .geq => bool (decide (b ≤ a))
      | op => int k (bitsI op k a b)

def binS (op : BinOp) (a b : ByteArray) : HM AV :=
  match op with
  | .eql => bool (a.toList == b.toList)
  | .neq => bool !(a.toList == b.toList)
  | .lss => bool (Op.bytesLess a.toList b.toList)
  | .geq => bool !(Op.bytesLess a.toList b.toList)
  | .add => .chk (decide (a.size + b.size ≤ 1099511627776)) (.ret (.v (.string (a ++ b))))
  | _ => .fail

def fbin (op : BinOp) (a b : Nat) : Option Nat :=
  match op with
  | .add => FloatKind.f64.format.add a b
  | .sub => FloatKind.f64.format.sub a b
  | .mul => FloatKind.f64.format.mul a b
  | _ => FloatKind.f64.format.div a b

def binF (op : BinOp) (a b : Nat) : HM AV :=
  match op with
  | .add | .sub | .mul | .quo => .chk (fbin op a b).isSome (.ret (.v (.float .f64 ((fbin op a b).getD 0))))
  | .eql => bool (FloatKind.f64.format.order a b == some .eq)
  | .neq => bool (FloatKind.f64.format.order a b != some .eq)
  | .lss => bool (FloatKind.f64.format.order a b == some .lt)
  | .leq => bool (FloatKind.f64.format.order a b == some .lt || FloatKind.f64.format.order a b == some .eq)
  | .gtr => bool (FloatKind.f64.format.order a b == some .gt)
  | .geq => bool (FloatKind.f64.format.order a b == some .gt || FloatKind.f64.format.order a b == some .eq)
  | _ => .fail

def one (x : Option AV) : HM AV := match x with
  | some y => .ret y
  | none => .fail

/-- does it point to something of some cells? -/
def someE (E : Env) : TD → Bool
  | .ptr e => match E.ty e with
    | some ei => decide (0 < ei.size)
    | none => false
  | _ => false

def binA (E : Env) (op : BinOp) (t : TypeId) (c : Bool) (x y : AV) : HM AV :=
  match x, y with
  | .v (.int k a), .v (.int k' b) => binI op k k' a b
  | .v (.float .f64 a), .v (.float .f64 b) => binF op a b
  | .v (.string a), .v (.string b) => binS op a b
  | x, y => match E.ty t with
    | none => .fail
    | some ti => match op with
      | .eql => (eqA ti.desc (someE E ti.desc) c x y).bind fun b => .ret (.v (.bool b))
      | .neq => (eqA ti.desc (someE E ti.desc) c x y).bind fun b => .ret (.v (.bool !b))
      | _ => .fail

def fieldOf (E : Env) (s : TypeId) (f : Nat) : Option (TypeId × Nat × Nat) :=
  match E.ty s with
  | some ti => match ti.desc with
    | .struct fs => fs[f]?
    | _ => none
  | none => none

/-- a place within memory, moved on by so many cells -/
def AV.moved (d : Nat) : AV → Option AV
  | .lptr id i j g => some (.lptr id i (j + d) g)
  | .gptr g j => some (.gptr g (j + d))
  | .iptr r j => some (.iptr r (j + d))
  | _ => none

def loadA (E : Env) (t : TypeId) (a : AV) : HM AV :=
  match E.ty t, a with
  | some ti, .lptr id i j g => .rd id fun b => if g = b.gen then (match b.ct with
      | .box r => if i = 0 then one (partA ti r j) else .fail
      | .sl t l => .chk (decide (i < l.length)) (one (partA ti (cellsT t (l.getD i (dfl t))) j))
      | .tab _ _ _ _ => .fail
      | .mp _ _ _ _ => .fail) else .fail
  | some ti, .iptr r j => one (partA ti r j)
  | some ti, .gptr g j => match E.glob g with
    | some r => one (partA ti r j)
    | none => .fail
  | _, _ => .fail

def freezeAll : List Ref → HM (List (Ref × Blk))
  | [] => .ret []
  | id :: r => match id with
    | .l id => .rd (.l id) fun b => (freezeAll r).bind fun l => .ret ((.l id, { b with frozen := true }) :: l)
    | .o _ _ _ => .fail

/-! Objects: the variables of a kind, all in one block. -/

/-- whose slices are stale -/
def stale (st : List (Nat × Nat)) (q : Nat) : Bool := st.any fun p => Nat.beq p.1 q

/-- the cells of an object's variable -/
def rowO (k i : Nat) (st : Nat → Bool) (gs : List Nat) : (cs : List Cell) → Nat → Val (rowsTy cs) → List AV
  | [], _, _ => []
  | .d t :: r, q, x => cellsT t x.1 ++ rowO k i st gs r q x.2
  | .sl t :: r, q, x => (match st q with
    | true => .top
    | false => .lsl t (.o k i q) 0 (List.length x.1) (gs.getD q 0)) :: rowO k i st gs r (q + 1) x.2

/-- a slice of an object's own -/
def slO (want : Nat) : (cs : List Cell) → Nat → Val (rowsTy cs) → Option ((t : Ty) × List (Val t))
  | [], _, _ => none
  | .d _ :: r, q, x => slO want r q x.2
  | .sl t :: r, q, x => match Nat.beq q want with
    | true => some ⟨t, x.1⟩
    | false => slO want r (q + 1) x.2

def setO (want : Nat) (u : Ty) (y : List (Val u)) : (cs : List Cell) → Nat → Val (rowsTy cs) → Val (rowsTy cs)
  | [], _, x => x
  | .d _ :: r, q, x => (x.1, setO want u y r q x.2)
  | .sl t :: r, q, x => match Nat.beq q want with
    | true => (if h : u = t then castL h y else x.1, x.2)
    | false => (x.1, setO want u y r (q + 1) x.2)

/-- what an object's variable bears -/
def objCt (k i : Nat) (st : Nat → Bool) (gs : List Nat) (cs : List Cell) (x : Val (rowsTy cs)) : Ct := match mapL cs x with
  | some c => c
  | none => .box (rowO k i st gs cs 1 x)

theorem objCt_box {k i : Nat} {st : Nat → Bool} {gs : List Nat} {cs : List Cell} (h : isMapK cs = false) (x : Val (rowsTy cs)) : objCt k i st gs cs x = .box (rowO k i st gs cs 1 x) := by
  unfold objCt
  rw [mapL_none h]
theorem objCt_sl {k i : Nat} {st : Nat → Bool} {gs : List Nat} {cs : List Cell} {x : Val (rowsTy cs)} {t : Ty} {l : List (Val t)} (h : objCt k i st gs cs x = .sl t l) : False := by
  unfold objCt at h
  split at h
  · rename_i c hc
    obtain ⟨a, b, l', clk, rfl⟩ := mapL_some hc
    cases h
  · cases h
theorem objCt_tab {k i : Nat} {st : Nat → Bool} {gs : List Nat} {cs : List Cell} {x : Val (rowsTy cs)} {cs' : List Cell} {l : List (Val (rowsTy cs'))} {st' : List (Nat × Nat)} {gs' : List Nat} (h : objCt k i st gs cs x = .tab cs' l st' gs') : False := by
  unfold objCt at h
  split at h
  · rename_i c hc
    obtain ⟨a, b, l', clk, rfl⟩ := mapL_some hc
    cases h
  · cases h
theorem objCt_isBox {k i : Nat} {st : Nat → Bool} {gs : List Nat} {cs : List Cell} {x : Val (rowsTy cs)} {row : List AV} (h : objCt k i st gs cs x = .box row) : isMapK cs = false ∧ row = rowO k i st gs cs 1 x := by
  unfold objCt at h
  split at h
  · rename_i c hc
    obtain ⟨a, b, l', clk, rfl⟩ := mapL_some hc
    cases h
  · rename_i hc
    injection h with h
    exact ⟨isMapK_of hc, h.symm⟩
theorem slO_noMap {q0 q : Nat} {cs : List Cell} {x : Val (rowsTy cs)} {z : (t : Ty) × List (Val t)} (h : slO q0 cs q x = some z) : isMapK cs = false := by
  unfold isMapK
  split
  · simp [slO] at h
  · rfl

/-- what is known of an object's blocks -/
def viewO (k i : Nat) (cs : List Cell) (l : List (Val (rowsTy cs))) (st : List (Nat × Nat)) (gs : List Nat) : Nat → Option Blk
  | 0 => some { ct := objCt k i (stale st) gs cs (l.getD i (dfl (rowsTy cs))), gen := 0, frozen := false }
  | q + 1 => match stale st (q + 1) with
    | true => none
    | false => match slO (q + 1) cs 1 (l.getD i (dfl (rowsTy cs))) with
      | some ⟨t, y⟩ => some { ct := .sl t y, gen := gs.getD (q + 1) 0, frozen := false }
      | none => none

def rdH (h : List (Option Blk)) : Ref → Option Blk
  | .l id => match h[id]? with
    | some b => b
    | none => none
  | .o k i q => match h[k]? with
    | some (some b) => match b.ct with
      | .tab cs l st gs => viewO k i cs l st gs q
      | _ => none
    | _ => none

def putH (h : List (Option Blk)) : Ref → Blk → List (Option Blk)
  | .l id, b => h.set id (some b)
  | .o k i q, b => match h[k]? with
    | some (some tb) => match tb.ct, b.ct with
      | .tab cs l st gs, .sl t y => h.set k (some { tb with ct := .tab cs (l.set i (setO q t y cs 1 (l.getD i (dfl (rowsTy cs))))) st gs })
      | .tab cs l st gs, .mp a' b' m clk => match mapRow a' b' m clk cs with
        | some row => h.set k (some { tb with ct := .tab cs (l.set i row) st gs })
        | none => h
      | _, _ => h
    | _ => h

/-- where a slice comes from that goes over to an object -/
inductive Src where
  | nil
  | loc (id i : Nat) (t : Ty) (gen : Nat)
  | own (i : Nat)

/-- a slice goes over to an object -/
def takeO (k i q : Nat) (t : Ty) : AV → HM (List (Val t) × Src)
  | .v (.slice none 0 0) => .ret ([], .nil)
  | .lsl _ (.l id) i0 n g => .rd (.l id) fun b => if g = b.gen ∧ b.frozen = false then (match b.ct with
    | .sl t' l => if h : t' = t then .chk (decide (i0 + n ≤ l.length)) (.ret (((castL h l).drop i0).take n, .loc id i0 t b.gen)) else .fail
    | _ => .fail) else .fail
  | .lsl _ (.o k' i' q') i0 n g => if k' = k ∧ q' = q then .rd (.o k' i' q') fun b => if g = b.gen then (match b.ct with
    | .sl t' l => if h : t' = t then .chk (decide (i' = i)) (.chk (decide (i0 + n ≤ l.length)) (.ret (((castL h l).drop i0).take n, .own i0))) else .fail
    | _ => .fail) else .fail else .fail
  | _ => .fail

/-- cells laid into an object's row, from place j on: the row; what was handed out; the slices that went over -/
def storeO (N : Names) (k i : Nat) : (cs : List Cell) → Nat → Val (rowsTy cs) → Nat → List AV → HM (Val (rowsTy cs) × List Ref × List (Nat × Src))
  | [], _, x, _, new => match new with
    | [] => .ret (x, [], [])
    | _ => .fail
  | .d t :: r, q, x, j, new => match new with
    | [] => .ret (x, [], [])
    | _ => match Nat.ble t.size j with
      | true => (storeO N k i r q x.2 (j - t.size) new).bind fun (z, f, u) => .ret ((x.1, z), f, u)
      | false => (exportN.exportL 8 (new.take (t.size - j))).bind fun (ys, f) => match decT N t (setRow (cellsT t x.1) j ys) with
        | some (y, []) => (storeO N k i r q x.2 0 (new.drop (t.size - j))).bind fun (z, f', u) => .ret ((y, z), f ++ f', u)
        | _ => .fail
  | .sl t :: r, q, x, j, new => match new with
    | [] => .ret (x, [], [])
    | y :: new' => match j with
      | j + 1 => (storeO N k i r (q + 1) x.2 j new).bind fun (z, f, u) => .ret ((x.1, z), f, u)
      | 0 => (takeO k i q t y).bind fun (l, s) => (storeO N k i r (q + 1) x.2 0 new').bind fun (z, f, u) => .ret ((l, z), f, (q, s) :: u)

/-- the blocks that went over are the call's own no more -/
def goneA : List (Nat × Src) → List (Ref × Blk)
  | [] => []
  | (_, .loc id _ t g) :: r => (.l id, { ct := .sl t [], gen := g + 1, frozen := false }) :: goneA r
  | _ :: r => goneA r

def srcIds : List (Nat × Src) → List Nat
  | [] => []
  | (_, .loc id _ _ _) :: r => id :: srcIds r
  | _ :: r => srcIds r

def nodupN : List Nat → Bool
  | [] => true
  | x :: r => !(r.any (Nat.beq x)) && nodupN r

/-- what was taken away of them is back -/
def backA (i : Nat) (u : List Nat) : List (Nat × Nat) → HM (List (Nat × Nat))
  | [] => .ret []
  | p :: r => match u.any (Nat.beq p.1) with
    | true => .chk (decide (p.2 = i)) (backA i u r)
    | false => (backA i u r).bind fun l => .ret (p :: l)

/-- slices that went over are turned -/
def turnG : List Nat → List Nat → List Nat
  | [], gs => gs
  | q :: r, gs => turnG r (gs.set q (gs.getD q 0 + 2))

/-- of what has a nothing -/
def Ty.zb : Ty → Bool
  | .pair a b => a.zb && b.zb
  | .st a => a.zb
  | .ref _ | .clo _ _ => false
  | .dy _ _ r => r.zb && Nat.beq r.size 1
  | _ => true

def Cell.zb : Cell → Bool
  | .d t => t.zb
  | .sl _ => true

/-- the numbers of the slices -/
def ownQs : List Cell → Nat → List Nat
  | [], _ => []
  | .d _ :: r, q => ownQs r q
  | .sl _ :: r, q => q :: ownQs r (q + 1)

/-- into an object's variable -/
def storeOA (E : Env) (ti : TyI) (k i j : Nat) (x : AV) : HM Dl := .rd (.l k) fun b => match b.ct with
  | .tab cs l st gs => match x.cells with
    | some new => if new.all AV.isCell ∧ new.length = ti.size ∧ isMapK cs = false then
        (storeO E.toNames k i cs 1 (l.getD i (dfl (rowsTy cs))) j new).bind fun (row, f, u) => (freezeAll f).bind fun fz => (backA i (u.map (·.1)) st).bind fun st' =>
          if nodupN (srcIds u) ∧ (srcIds u).all (fun id => !(f.contains (.l id))) ∧ (u.map (·.1)).all (fun q => Nat.blt q gs.length) then
            .ret { x := .v (.tuple #[]), wr := fz ++ goneA u ++ [(.l k, { b with ct := .tab cs (l.set i row) st' (turnG (u.map (·.1)) gs) })] } else .fail
      else .fail
    | none => .fail
  | _ => .fail

/-- an object more -/
def newOA (E : Env) (ti : TyI) (k : Nat) (cells : List AV) : HM Dl := .rd (.l k) fun b => match b.ct with
  | .tab cs l st gs => if cells.all AV.isCell ∧ cells.length = ti.size ∧ isMapK cs = false then
      (storeO E.toNames k l.length cs 1 (dfl (rowsTy cs)) 0 cells).bind fun (row, f, u) => (freezeAll f).bind fun fz =>
        if nodupN (srcIds u) ∧ (srcIds u).all (fun id => !(f.contains (.l id))) ∧ (ownQs cs 1).all (fun q => (u.map (·.1)).any (Nat.beq q)) ∧ cs.all Cell.zb ∧ st.isEmpty ∧ cells.length = (rowsTy cs).size then
          .ret { x := .hd k (some l.length), wr := fz ++ goneA u ++ [(.l k, { b with ct := .tab cs (l ++ [row]) st gs })] } else .fail
    else .fail
  | _ => .fail

def storeA (E : Env) (t : TypeId) (a x : AV) : HM Dl :=
  match E.ty t, a with
  | some ti, .lptr (.o k io 0) i j _ => if i = 0 then storeOA E ti k io j x else .fail
  | some ti, .lptr id i j g => .rd id fun b => if g = b.gen ∧ b.frozen = false then
    match b.ct with
    | .tab _ _ _ _ => .fail
    | .mp _ _ _ _ => .fail
    | .box r => match x.cells with
      | some cs => if i = 0 ∧ cs.all AV.isCell ∧ cs.length = ti.size ∧ j + cs.length ≤ r.length then
          .ret { x := .v (.tuple #[]), wr := [(id, { b with ct := .box (setRow r j cs) })] } else .fail
      | none => .fail
    | .sl u l => .chk (decide (i < l.length)) ((exportN 8 x).bind fun (y, ids) => (freezeAll ids).bind fun fz => match y.cells with
      | some cs => if cs.all AV.isCell ∧ cs.length = ti.size ∧ j + cs.length ≤ u.size ∧ ids.contains id = false then
          match decT E.toNames u (setRow (cellsT u (l.getD i (dfl u))) j cs) with
          | some (z, []) => .ret { x := .v (.tuple #[]), wr := fz ++ [(id, { b with ct := .sl u (l.set i z) })] }
          | _ => .fail
        else .fail
      | none => .fail)
    else .fail
  | _, _ => .fail

/-- the elements of a slice value, as they are now (none: the nil slice) -/
def sliceSeq : AV → HM (Option ((t : Ty) × List (Val t)))
  | .isl t l => .ret (some ⟨t, l⟩)
  | .nsl t l => .ret (some ⟨t, l⟩)
  | .v (.slice none 0 0) => .ret none
  | .lsl _ id i n g => .rd id fun b => if g = b.gen then (match b.ct with
    | .sl t l => .chk (decide (i + n ≤ l.length)) (.ret (some ⟨t, (l.drop i).take n⟩))
    | _ => .fail) else .fail
  | _ => .fail

def lenA (d : TD) (x : AV) : Option Nat :=
  match d, x with
  | .slice _, .isl _ l => some l.length
  | .slice _, .v (.slice none 0 0) => some 0
  | .slice _, .lsl _ _ _ n _ => some n
  | .str, .v (.string s) => some s.size
  | _, _ => none

def elemT (E : Env) (t : TypeId) : Option TyI :=
  match E.ty t with
  | some ti => match ti.desc with
    | .slice e => E.ty e
    | _ => none
  | none => none

/-- the greatest number of bytes that is appended to -/
def most : Nat := 1099511627776

def appendA (E : Env) (t : TypeId) (newId : Nat) (s x : AV) : HM Dl :=
  match elemT E t with
  | none => .fail
  | some ti => (sliceSeq x).bind fun
    | none => match s with
      | .lsl u id i n g => .ret { x := .lsl u id i n g }
      | .v (.slice none 0 0) => .ret { x := .v (.slice none 0 0) }
      | _ => .fail
    | some ⟨u, y⟩ => if u.size ≠ ti.size then .fail else match s with
      | .lsl t0 (.l id) i n g => .rd (.l id) fun b => if g = b.gen ∧ b.frozen = false ∧ t0.size = u.size then (match b.ct with
        | .sl u' l => if h : u = u' then
            .chk (decide (i + n = l.length)) (.chk (decide ((n + y.length) * (ti.bytes + 1) ≤ most))
              (.ret { x := .lsl u' (.l id) 0 (n + y.length) (g + 1), wr := [(.l id, { b with ct := .sl u' ((l.drop i).take n ++ castL h y), gen := g + 1 })] }))
          else .fail
        | _ => .fail) else .fail
      | .lsl t0 (.o k io q) i n g => .rd (.o k io q) fun b => .rd (.l k) fun tb => if g = b.gen ∧ t0.size = u.size then (match b.ct, tb.ct with
        | .sl u' l, .tab cs rows st gs => if h : u = u' then
            .chk (decide (i + n = l.length)) (.chk (decide ((n + y.length) * (ti.bytes + 1) ≤ most))
              (.ret { x := .lsl u' (.l newId) 0 (n + y.length) 1, wr := [(.l k, { tb with ct := .tab cs rows ((q, io) :: st) gs }), (.l newId, { ct := .sl u' ((l.drop i).take n ++ castL h y), gen := 1, frozen := false })] }))
          else .fail
        | _, _ => .fail) else .fail
      | .v (.slice none 0 0) => .chk (decide (y.length * (ti.bytes + 1) ≤ most))
          (.ret { x := .lsl u (.l newId) 0 y.length 0, wr := [(.l newId, { ct := .sl u y, gen := 0, frozen := false })] })
      | _ => .fail

/-- a bound of a slice expression; what is left out is d -/
def boundA (d : Nat) : Option AV → HM Nat
  | none => .ret d
  | some (.v (.int _ n)) => .chk (decide (0 ≤ n)) (.ret n.toNat)
  | _ => .fail

def sliceA (sz : Nat) (x : AV) (lo hi : Option AV) : HM AV :=
  match x with
    | .lsl t id i n g => if t.size = sz then (boundA 0 lo).bind fun l => (boundA n hi).bind fun h =>
        .chk (decide (l ≤ h)) (.chk (decide (h ≤ n)) (.ret (.lsl t id (i + l) (h - l) g))) else .fail
    | .isl t s => if t.size = sz then (boundA 0 lo).bind fun l => (boundA s.length hi).bind fun h =>
        .chk (decide (l ≤ h)) (.chk (decide (h ≤ s.length)) (.ret (.isl t ((s.drop l).take (h - l))))) else .fail
    | _ => .fail

def cutA (s : ByteArray) (lo hi : Option AV) : HM AV := (boundA 0 lo).bind fun l => (boundA s.size hi).bind fun h =>
        .chk (decide (l ≤ h)) (.chk (decide (h ≤ s.size)) (.ret (.v (.string (s.extract l h)))))

/-- x[:0:0]: a slice of no room -/
def emptyA (E : Env) (t : TypeId) (newId : Nat) (x : AV) (lo hi : Option AV) (m : AV) : HM Dl :=
  match E.ty t with
  | some ti => match ti.desc with
    | .slice e => match E.ty e with
      | some ei => match ei.ty, lo, hi, m with
        | some u, none, some (.v (.int _ a)), .v (.int _ b) => if a = 0 ∧ b = 0 then (match x with
          | .v (.slice none 0 0) => .ret { x := x }
          | .isl _ _ => .ret { x := .lsl u (.l newId) 0 0 0, wr := [(.l newId, { ct := .sl u [], gen := 0, frozen := false })] }
          | .lsl _ _ _ _ _ => .ret { x := .lsl u (.l newId) 0 0 0, wr := [(.l newId, { ct := .sl u [], gen := 0, frozen := false })] }
          | _ => .fail) else .fail
        | _, _, _, _ => .fail
      | none => .fail
    | _ => .fail
  | none => .fail

def indexAddrA (E : Env) (t : TypeId) (x ix : AV) : HM AV :=
  match ix.int?, E.ty t with
  | some (_, k), some ti => match ti.desc, x with
    | .slice e, .lsl u id i n g => match E.ty e with
      | some ei => if u.size = ei.size then .chk (decide (0 ≤ k)) (.chk (decide (k.toNat < n)) (.ret (.lptr id (i + k.toNat) 0 g))) else .fail
      | none => .fail
    | .slice e, .isl u l => match E.ty e with
      | some ei => if u.size = ei.size then .chk (decide (0 ≤ k)) (.chk (decide (k.toNat < l.length)) (.ret (.iptr (cellsT u (l.getD k.toNat (dfl u))) 0))) else .fail
      | none => .fail
    | .arr len e, x => match E.ty e with
      | some ei => if 0 ≤ k ∧ k.toNat < len ∧ 1 < len then one (x.moved (k.toNat * ei.size)) else .fail
      | none => .fail
    | _, _ => .fail
  | _, _ => .fail

def byteS (s : ByteArray) (i : Nat) : Int := (s.data.toList.getD i 0).toNat

def indexA (E : Env) (t : TypeId) (x ix : AV) : HM AV :=
  match ix.int?, E.ty t with
  | some (_, k), some ti => match ti.desc, x with
    | .str, .v (.string s) => .chk (decide (0 ≤ k)) (.chk (decide (k.toNat < s.size)) (int .u8 (byteS s k.toNat)))
    | .arr len e, .agg l => match E.ty e with
      | some ei => if 0 ≤ k ∧ k.toNat < len then one (partA ei l (k.toNat * ei.size)) else .fail
      | none => .fail
    | _, _ => .fail
  | _, _ => .fail

/-- a number of 64 bits, cut to a whole one -/
def ftoi (b : Nat) : Int := ((FloatKind.f64.decode b).toInt .zero).getD 0
def ftoiOK (k : IntKind) (b : Nat) : Bool := match (FloatKind.f64.decode b).toInt .zero with
  | some n => decide (k.min ≤ n) && decide (n ≤ k.max)
  | none => false

def convA (E : Env) (src dst : TypeId) (x : AV) : HM AV :=
  match E.ty src, E.ty dst with
  | some s, some d => match s.desc, d.desc, x with
    | .int _, .int k, .v (.int _ n) => int k (k.wrap n)
    | .int _, .float .f64, .v (.int _ n) => .ret (.v (.float .f64 (FloatKind.f64.nearest n)))
    | .float .f64, .int k, .v (.float .f64 b) => .chk (ftoiOK k b) (.ret (.v (.int k (ftoi b))))
    | .str, .str, .v (.string s) => .ret (.v (.string s))
    | _, _, _ => .fail
  | _, _ => .fail

def fold2 (f : Int → Int → Int) : AV → List AV → Option AV
  | x, [] => some x
  | .v (.int k a), .v (.int k' b) :: r => match sameK k k' with
    | true => fold2 f (.v (.int k (f a b))) r
    | false => none
  | _, _ => none

def copyA (E : Env) (t : TypeId) (dst src : AV) : HM Dl :=
  match elemT E t with
  | none => .fail
  | some ti => (sliceSeq src).bind fun
  | none => .fail
  | some ⟨u, y⟩ => if u.size ≠ ti.size then .fail else match dst with
    | .lsl t0 id i n g => .rd id fun b => if g = b.gen ∧ b.frozen = false ∧ t0.size = u.size then (match b.ct with
      | .sl u' l => if h : u = u' then .chk (decide (i + n ≤ l.length))
          (.ret { x := .v (.int .i64 (min y.length n : Nat)), wr := [(id, { b with ct := .sl u' (l.take i ++ (castL h y).take (min y.length n) ++ l.drop (i + min y.length n)) })] })
          else .fail
      | _ => .fail) else .fail
    | _ => .fail

/-- elements are made nothings -/
def clearA (E : Env) (t : TypeId) (x : AV) : HM Dl :=
  match elemT E t with
  | none => .fail
  | some ti => match ti.ty, x with
    | some _, .v (.slice none 0 0) => .ret { x := .v (.tuple #[]) }
    | some u, .lsl t0 id i n g => .rd id fun b => if g = b.gen ∧ b.frozen = false ∧ t0.size = u.size then (match b.ct with
      | .sl u' l => if h : u = u' then .chk (decide (i + n ≤ l.length)) (.ret { x := .v (.tuple #[]), wr := [(id, { b with ct := .sl u' (l.take i ++ List.replicate n (dfl u') ++ l.drop (i + n)) })] }) else .fail
      | _ => .fail) else .fail
    | _, _ => .fail

/-! Maps. -/

/-- one value read as data, of the kind that it has to be -/
def decV (N : Names) (t : Ty) (x : AV) : Option (Val t) :=
  match t.isAgg with
  | true => match x with
    | .agg l => match decT N t l with
      | some (y, []) => some y
      | _ => none
    | _ => none
  | false => match t.one, x.isCell with
    | true, true => match decT N t [x] with
      | some (y, []) => some y
      | _ => none
    | _, _ => none



/-- are two keys the same? -/
def keyEq : (t : Ty) → Val t → Val t → Bool
  | .int _, a, b => decide ((a : Int) = b)
  | .bool, a, b => (a : Bool) == b
  | .str, a, b => ByteArray.toList a == ByteArray.toList b
  | .unit, _, _ => true
  | .pair a b, x, y => keyEq a x.1 y.1 && keyEq b x.2 y.2
  | .st a, x, y => keyEq a x y
  | _, _, _ => false

/-- what a map has for a key -/
def getM (a b : Ty) : List (Val a × (Val b × Nat)) → Val a → Option (Val b × Nat)
  | [], _ => none
  | x :: r, k => match keyEq a k x.1 with
    | true => some x.2
    | false => getM a b r k
def hasM (a b : Ty) (l : List (Val a × (Val b × Nat))) (k : Val a) : Bool := (getM a b l k).isSome
def atM (a b : Ty) (l : List (Val a × (Val b × Nat))) (k : Val a) : Val b := match getM a b l k with
  | some y => y.1
  | none => dfl b
/-- when it was laid in -/
def bornM (a b : Ty) (l : List (Val a × (Val b × Nat))) (k : Val a) (clk : Nat) : Nat := match getM a b l k with
  | some y => y.2
  | none => clk
def putM (a b : Ty) : List (Val a × (Val b × Nat)) → Val a → Val b → Nat → List (Val a × (Val b × Nat))
  | [], k, y, clk => [(k, (y, clk))]
  | x :: r, k, y, clk => match keyEq a k x.1 with
    | true => (k, (y, x.2.2)) :: r
    | false => x :: putM a b r k y clk
def clkM (a b : Ty) (l : List (Val a × (Val b × Nat))) (k : Val a) (clk : Nat) : Nat := match getM a b l k with
  | some _ => clk
  | none => clk + 1
def delM (a b : Ty) : List (Val a × (Val b × Nat)) → Val a → List (Val a × (Val b × Nat))
  | [], _ => []
  | x :: r, k => match keyEq a k x.1 with
    | true => r
    | false => x :: delM a b r k
/-- the one that was laid in then -/
def hasB (a b : Ty) : List (Val a × (Val b × Nat)) → Nat → Bool
  | [], _ => false
  | x :: r, n => match Nat.beq x.2.2 n with
    | true => true
    | false => hasB a b r n
def setB' (a b : Ty) : List (Val a × (Val b × Nat)) → Nat → Val b → List (Val a × (Val b × Nat))
  | [], _, _ => []
  | x :: r, n, y => match Nat.beq x.2.2 n with
    | true => (x.1, (y, x.2.2)) :: r
    | false => x :: setB' a b r n y

/-- what a map's type says -/
def mapT (E : Env) (t : TypeId) : Option (Ty × Ty) := match E.ty t with
  | some ti => match ti.desc with
    | .map k e => match E.key k, E.ty e with
      | some a, some ei => match ei.ty with
        | some b => if (b.isAgg || b.one) && (b.isAgg == ei.desc.isAgg) then some (a, b) else none
        | none => none
      | _, _ => none
    | _ => none
  | none => none

/-- a map as it is now -/
def rdM {α : Type} (E : Env) (t : TypeId) (x : AV) (f : Ref → Blk → (a b : Ty) → List (Val a × (Val b × Nat)) → Nat → HM α) : HM α := match mapT E t, x with
  | some (a, b), .mh kd h => .chk h.isSome (.rd (.o kd (h.getD 0) 0) fun bl => match bl.ct with
    | .mp a' b' l clk => if a' = a ∧ b' = b then f (.o kd (h.getD 0) 0) bl a' b' l clk else .fail
    | _ => .fail)
  | _, _ => .fail

def lookupA (E : Env) (t : TypeId) (x k : AV) (ok : Bool) : HM AV := rdM E t x fun _ _ a b l _ => match decV E.toNames a k with
  | some kv => match ok with
    | true => .ret (.tup [encA b (atM a b l kv), .v (.bool (hasM a b l kv))])
    | false => .ret (encA b (atM a b l kv))
  | none => .fail

def mapPutA (E : Env) (t : TypeId) (x k v : AV) : HM Dl := rdM E t x fun r bl a b l clk => match decV E.toNames a k with
  | some kv => (exportN 8 v).bind fun (y, ids) => (freezeAll ids).bind fun fz => match decV E.toNames b y with
    | some yv => .ret { x := .v (.tuple #[]), wr := fz ++ [(r, { bl with ct := .mp a b (putM a b l kv yv clk) (clkM a b l kv clk) })] }
    | none => .fail
  | none => .fail

def mapEntryA (E : Env) (t : TypeId) (x k : AV) : HM Dl := rdM E t x fun r bl a b l clk => match decV E.toNames a k with
  | some kv => .ret { x := .tup [encA b (atM a b l kv), .v (.int .i64 (bornM a b l kv clk : Nat))], wr := [(r, { bl with ct := .mp a b (putM a b l kv (atM a b l kv) clk) (clkM a b l kv clk) })] }
  | none => .fail

def entryStoreA (E : Env) (t : TypeId) (x k v : AV) : HM Dl := rdM E t x fun r bl a b l clk => match k with
  | .v (.int _ n) => .chk (decide (0 ≤ n) && hasB a b l n.toNat) ((exportN 8 v).bind fun (y, ids) => (freezeAll ids).bind fun fz => match decV E.toNames b y with
    | some yv => .ret { x := .v (.tuple #[]), wr := fz ++ [(r, { bl with ct := .mp a b (setB' a b l n.toNat yv) clk })] }
    | none => .fail)
  | _ => .fail

def deleteA (E : Env) (t : TypeId) (x k : AV) : HM Dl := rdM E t x fun r bl a b l clk => match decV E.toNames a k with
  | some kv => .ret { x := .v (.tuple #[]), wr := [(r, { bl with ct := .mp a b (delM a b l kv) clk })] }
  | none => .fail

def clearMA (E : Env) (t : TypeId) (x : AV) : HM Dl := rdM E t x fun r bl a b _ clk => .ret { x := .v (.tuple #[]), wr := [(r, { bl with ct := .mp a b [] clk })] }

def lenMA (E : Env) (t : TypeId) (x : AV) : HM Dl := rdM E t x fun _ _ _ _ l _ => .ret { x := .v (.int .i64 (l.length : Nat)) }

/-- a map more -/
def makeMapA (E : Env) (t : TypeId) : HM Dl := match mapT E t, E.mkind t with
  | some (a, b), some k => .rd (.l k) fun bl => match bl.ct with
    | .tab cs l st gs => match mapRow a b [] 0 cs with
      | some row => if st.isEmpty then .ret { x := .mh k (some l.length), wr := [(.l k, { bl with ct := .tab cs (l ++ [row]) st gs })] } else .fail
      | none => .fail
    | _ => .fail
  | _, _ => .fail

/-- is it a map's type? -/
def isMapT (E : Env) (t : TypeId) : Bool := match E.ty t with
  | some ti => match ti.desc with
    | .map _ _ => true
    | _ => false
  | none => false

def imax (a b : Int) : Int := if b > a then b else a
def imin (a b : Int) : Int := if b < a then b else a

def val (x : AV) : Dl := { x := x }

def builtinA (E : Env) (newId : Nat) (b : Builtin) (ts : List TypeId) (args : List AV) : HM Dl :=
  match b, ts, args with
  | .len, t :: _, [x] => match isMapT E t with
    | true => lenMA E t x
    | false => match E.ty t with
      | some ti => match lenA ti.desc x with
        | some n => .ret (val (.v (.int .i64 n)))
        | none => .fail
      | none => .fail
  | .append, [t, t'], [s, x] => if t = t' then appendA E t newId s x else .fail
  | .copy, t :: _, [d, s] => copyA E t d s
  | .clear, [t], [x] => match isMapT E t with
    | true => clearMA E t x
    | false => clearA E t x
  | .delete, t :: _, [m, k] => deleteA E t m k
  | .max, _, x :: r => (one (fold2 imax x r)).bind fun y => .ret (val y)
  | .min, _, x :: r => (one (fold2 imin x r)).bind fun y => .ret (val y)
  | _, _, _ => .fail

/-- the nearest whole number; is the number one that it is known of? -/
def evenOK (x : Nat) : Bool := match FloatKind.f64.decode x with
  | .nan _ t => decide (FloatKind.f64.format.quiet t = t)
  | _ => true
def evenF (x : Nat) : Nat := match FloatKind.f64.decode x with
  | .nan _ _ => x
  | d => FloatKind.f64.encode (d.integral .even)

/-- what a function without a body answers -/
def extA (k : ExtK) (args : List AV) : HM Dl :=
  match k, args with
  | .bits, [.v (.float .f64 b)] => .ret { x := .v (.int .u64 (b : Int)) }
  | .frombits, [.v (.int .u64 n)] => .ret { x := .v (.float .f64 n.toNat) }
  | .even, [.v (.float .f64 x)] => .chk (evenOK x) (.ret { x := .v (.float .f64 (evenF x)) })
  | _, _ => .fail

/-- of objects of these kinds alone (and, where asked, of no reference but to them) -/
def Ty.ok (ks : List Nat) (fl : Bool) : Ty → Bool
  | .int _ | .bool | .str | .flt | .unit | .nat => true
  | .hd k => ks.any (Nat.beq k)
  | .mh k => ks.any (Nat.beq k)
  | .dy _ a r => a.ok ks fl && r.ok ks fl
  | .dn => true
  | .pair a b => a.ok ks fl && b.ok ks fl
  | .st a => a.ok ks fl
  | .err => !fl
  | .sl a => !fl && a.ok ks fl
  | .ref a => !fl && a.ok ks fl
  | .clo _ c => !fl && c.ok ks fl

def Cell.ok (ks : List Nat) (fl : Bool) : Cell → Bool
  | .d t => t.ok ks fl
  | .sl t => t.ok ks fl

/-- likewise, of a value; references to blocks of the call's own may be new ones -/
def AV.ok (ks : List Nat) (fl : Bool) (b0 : Nat) : Nat → AV → Bool
  | 0, _ => false
  | n + 1, x => match x with
    | .v _ => true
    | .er _ => !fl
    | .agg l => l.all (AV.ok ks fl b0 n)
    | .tup l => l.all (AV.ok ks fl b0 n)
    | .isl t _ => !fl && t.ok ks fl
    | .nsl t _ => !fl && t.ok ks fl
    | .iptr row _ => !fl && row.all (AV.ok ks fl b0 n)
    | .gptr _ _ => true
    | .lsl _ (.l id) _ _ _ => Nat.ble b0 id
    | .lptr (.l id) _ _ _ => Nat.ble b0 id
    | .lsl _ _ _ _ _ => false
    | .lptr _ _ _ _ => false
    | .iface _ y => y.ok ks fl b0 n
    | .fn _ a c => a.all (AV.ok ks fl b0 n) && c.all (AV.ok ks fl b0 n)
    | .hd k _ => ks.any (Nat.beq k)
    | .mh k _ => ks.any (Nat.beq k)
    | .dy t _ => t.ok ks fl
    | .top => true

def Blk.ok (ks : List Nat) (fl : Bool) (b0 : Nat) (b : Blk) : Bool := match b.ct with
  | .sl t _ => t.ok ks fl
  | .box row => row.all (AV.ok ks fl b0 8)
  | .tab cs _ _ _ => cs.all (Cell.ok ks fl)
  | .mp _ _ _ _ => false

/-- these kinds' objects -/
def rdAll : List Nat → HM (List Blk)
  | [] => .ret []
  | k :: r => .rd (.l k) fun b => (rdAll r).bind fun l => .ret (b :: l)

/-- nothing was taken away of them -/
def cleanB (ks : List Nat) (b : Blk) : Bool := match b.ct with
  | .tab cs _ st _ => st.isEmpty && cs.all (Cell.ok ks false)
  | _ => false

/-- as a callee has them -/
def handB (b : Blk) : Blk := match b.ct with
  | .tab cs l _ _ => { ct := .tab cs l [] (List.replicate ((ownQs cs 1).length + 1) 0), gen := 0, frozen := false }
  | _ => b

/-- how often an object's slices were turned -/
def Blk.gq (b : Blk) (q : Nat) : Nat := match b.ct with
  | .tab _ _ _ gs => gs.getD q 0
  | _ => 0

def genB : List Nat → List Blk → Nat → Nat → Nat
  | k' :: ks, b :: bs, k, q => match Nat.beq k' k with
    | true => b.gq q
    | false => genB ks bs k q
  | _, _, _, _ => 0

/-- an answer may be a piece of an object's own -/
def AV.okR1 (ks : List Nat) (ts : List Blk) (fl : Bool) (b0 : Nat) : AV → Bool
  | .lsl _ (.o k _ q) _ _ g => ks.any (Nat.beq k) && Nat.blt 0 q && Nat.beq g (genB ks ts k q)
  | x => x.ok ks fl b0 8
def AV.okR (ks : List Nat) (ts : List Blk) (fl : Bool) (b0 : Nat) : AV → Bool
  | .tup l => l.all (AV.okR1 ks ts fl b0)
  | x => x.okR1 ks ts fl b0

/-- … and is one then -/
def AV.turn1 (ks : List Nat) (bs : List Blk) : AV → AV
  | .lsl t (.o k i q) lo n _ => .lsl t (.o k i q) lo n (genB ks bs k q + 1)
  | x => x
def AV.turn (ks : List Nat) (bs : List Blk) : AV → AV
  | .tup l => .tup (l.map (AV.turn1 ks bs))
  | x => x.turn1 ks bs

/-- as they are behind a call -/
def backB (b b' : Blk) : Blk := match b.ct, b'.ct with
  | .tab cs _ _ gs, .tab cs' l _ _ => if cs' = cs then { b with ct := .tab cs' l [] ((List.range ((ownQs cs' 1).length + 1)).map fun q => gs.getD q 0 + 1) } else b
  | _, _ => b

def backBs : List Nat → List Blk → List Blk → List (Ref × Blk)
  | k :: ks, b :: bs, b' :: bs' => (.l k, backB b b') :: backBs ks bs bs'
  | _, _, _ => []

/-- they are of the same making -/
def likeB (b b' : Blk) : Bool := match b.ct, b'.ct with
  | .tab cs _ _ _, .tab cs' _ st _ => decide (cs' = cs) && st.isEmpty
  | _, _ => false

def likeBs : List Blk → List Blk → Bool
  | [], [] => true
  | b :: bs, b' :: bs' => likeB b b' && likeBs bs bs'
  | _, _ => false

/-- nothing is handed out of objects that a callee may change -/
def apartR (ks : List Nat) (ids : List Ref) : Bool := ids.all fun r => match r with
  | .l _ => true
  | .o k _ _ => !(ks.any (Nat.beq k))

/-- a slice of the call's own, or of an object's, whole, is made one of the call's own: its block, how often that was turned, what it bears; what is written -/
def ownA (newId : Nat) (u : Ty) : AV → HM (Nat × Nat × List (Val u) × List (Ref × Blk))
  | .lsl t0 (.l id) i n g => .rd (.l id) fun b => if g = b.gen ∧ b.frozen = false ∧ t0.size = u.size then (match b.ct with
    | .sl u' l => if h : u' = u then .chk (decide (i + n = l.length)) (.ret (id, g, ((castL h l).drop i).take n, [])) else .fail
    | _ => .fail) else .fail
  | .lsl t0 (.o k io q) i n g => .rd (.o k io q) fun b => .rd (.l k) fun tb => if g = b.gen ∧ t0.size = u.size then (match b.ct, tb.ct with
    | .sl u' l, .tab cs rows st gs => if h : u' = u then .chk (decide (i + n = l.length)) (.ret (newId, 0, ((castL h l).drop i).take n, [(.l k, { tb with ct := .tab cs rows ((q, io) :: st) gs })])) else .fail
    | _, _ => .fail) else .fail
  | .v (.slice none 0 0) => .ret (newId, 0, [], [])
  | _ => .fail

/-- a number's bytes -/
def u8 (n : Int) : Int := IntKind.u8.wrap n
def putB (n : Int) (w : Bool) : List Int := match w with
  | true => [u8 n, u8 (shrI .i64 n 8), u8 (shrI .i64 n 16), u8 (shrI .i64 n 24)]
  | false => [u8 n]
def lowB (n : Int) (k : Nat) : List Int := (List.range k).map fun i => u8 (shrI .u64 n (8 * i : Nat))
def appV : AppK → List Value → Option (List Int)
  | .put, [.int .i64 n, .bool w] => some (putB n w)
  | .low, [.int .u64 n, .int .i64 k] => some (lowB n k.toNat)
  | _, _ => none
def avVals : List AV → Option (List Value)
  | [] => some []
  | .v x :: r => match avVals r with
    | some l => some (x :: l)
    | none => none
  | _ => none

/-- an error with a place: is it? its place, its error -/
def Er.isAt : Er → Bool
  | .at _ _ => true
  | _ => false
def Er.pos : Er → Int
  | .at p _ => p
  | _ => 0
def Er.gix : Er → Nat
  | .at _ g => g
  | .s g => g
  | .nil => 0

/-- elements laid into a slice, taken out of one -/
def lstA (E : Env) (newId : Nat) (k : LstK) (args : List AV) : HM Dl :=
  match k, args with
  | .ins sz wd, [s, .v (.int .i64 i), .lsl t1 (.l iy) lo m gy] => .rd (.l iy) fun yb => if gy = yb.gen then (match yb.ct with
    | .sl u y => if u.size = sz ∧ t1.size = sz then .chk (decide (lo + m ≤ y.length)) ((ownA newId u s).bind fun (id, g, l, wr) => match Nat.beq id iy with
      | true => .fail
      | false => .chk (decide (0 < m)) (.chk (decide (0 ≤ i)) (.chk (decide (i.toNat ≤ l.length)) (.chk (decide ((l.length + m) * (wd + 1) ≤ most))
          (.ret { x := .lsl u (.l id) 0 (l.length + m) (g + 1), wr := wr ++ [(.l id, { ct := .sl u (l.take i.toNat ++ (y.drop lo).take m ++ l.drop i.toNat), gen := g + 1, frozen := false })] }))))) else .fail
    | _ => .fail) else .fail
  | .del sz, [.lsl u r lo n g, .v (.int .i64 i), .v (.int .i64 j)] => if u.size = sz then (ownA newId u (.lsl u r lo n g)).bind fun (id, g, l, wr) =>
      .chk (decide (0 < l.length)) (.chk (decide (0 ≤ i)) (.chk (decide (i.toNat ≤ j.toNat)) (.chk (decide (0 ≤ j)) (.chk (decide (j.toNat ≤ l.length))
        (.ret { x := .lsl u (.l id) 0 (l.length - (j.toNat - i.toNat)) (g + 1), wr := wr ++ [(.l id, { ct := .sl u (l.take i.toNat ++ l.drop j.toNat), gen := g + 1, frozen := false })] }))))) else .fail
  | .fil g k, [.lsl u r lo n gg, .fn (.func g') [] [.lptr (.l ib) 0 0 gb]] => if g' = g ∧ u = .hd k then .rd (.l ib) fun bb => if gb = bb.gen then (match bb.ct with
    | .box [.hd k' h] => if k' = k then (.rd (.l k) fun tk => match tk.ct with
      | .tab cs _ _ _ => if isMapK cs = false then (ownA newId (.hd k) (.lsl u r lo n gg)).bind fun (id, gn, l, wr) => match Nat.beq id ib with
      | true => .fail
      | false => .chk (decide (0 < l.length)) (.chk (decide (l.length ≤ most)) (.ret { x := .lsl (.hd k) (.l id) 0 (l.filter fun (y : Option Nat) => !decide (y = h)).length (gn + 1), wr := wr ++ [(.l id, { ct := .sl (.hd k) (l.filter fun (y : Option Nat) => !decide (y = h)), gen := gn + 1, frozen := false })] })) else .fail
      | _ => .fail) else .fail
    | _ => .fail) else .fail else .fail
  | .app k, s :: args => match avVals args with
    | some xs => match appV k xs with
      | some bs => (ownA newId (.int .u8) s).bind fun (id, g, l, wr) => .chk (decide ((l.length + bs.length) * 2 ≤ most))
          (.ret { x := .lsl (.int .u8) (.l id) 0 (l.length + bs.length) (g + 1), wr := wr ++ [(.l id, { ct := .sl (.int .u8) (l ++ bs), gen := g + 1, frozen := false })] })
      | none => .fail
    | none => .fail
  | .asE pt et at_ g rt gs ty, [x, .iface pt' (.lptr (.l ib) 0 0 gb)] => if pt' = pt ∧ et = E.errT ∧ at_ = E.atT then (match E.glob g, decE E.toNames x with
    | some [.iface rt' (.agg [.v (.pointer (some ⟨gs', ty', none⟩))])], some e => if rt' = rt ∧ gs' = gs ∧ ty' = ty then .rd (.l ib) fun bb => if gb = bb.gen ∧ bb.frozen = false then (match bb.ct with
      | .box [_] => .dec e.isAt (.ret { x := .v (.bool true), wr := [(.l ib, { bb with ct := .box [.iptr [.v (.int .i64 e.pos), .er (.s e.gix)] 0] })] }) (.ret { x := .v (.bool false) })
      | _ => .fail) else .fail else .fail
    | _, _ => .fail) else .fail
  | _, _ => .fail

/-- a call: what goes in is told as values; where its answer may bear references, what it was handed is frozen -/
def callA (E : Env) (f : FuncId) (newId : Nat) (args : List AV) : HM Dl :=
  match E.fn f with
  | none => match E.ext f with
    | some k => extA k args
    | none => match E.lst f with
      | some k => lstA E newId k args
      | none => .fail
  | some _ => (exportN.exportL 8 args).bind fun (as, ids) => match apartR (E.ks f) ids && as.all (AV.ok (E.ks f) false 0 8) with
    | false => .fail
    | true => (rdAll (E.ks f)).bind fun bs => match bs.all (cleanB (E.ks f)) with
      | false => .fail
      | true => .call f as (bs.map handB) newId fun r ts wr => match Nat.ble wr.length 8 && likeBs bs ts && Nat.ble E.kinds.length newId with
        | false => .fail
        | true => match r.okR (E.ks f) ts true newId && wr.all (fun p => p.2.ok (E.ks f) true newId) && ts.all (Blk.ok (E.ks f) true newId) with
          | true => .ret { x := r.turn (E.ks f) bs, wr := backBs (E.ks f) bs ts ++ wr.map fun p => (.l p.1, p.2) }
          | false => match r.okR (E.ks f) ts false newId && wr.all (fun p => p.2.ok (E.ks f) false newId) with
            | false => .fail
            | true => (freezeAll ids).bind fun fz => .ret { x := r.turn (E.ks f) bs, wr := fz ++ (backBs (E.ks f) bs ts ++ wr.map fun p => (.l p.1, p.2)) }

def oneZero (ti : TyI) : AV := match ti.desc.isAgg with
  | true => .agg ti.zero
  | false => ti.zero.headD .top

/-- is this one of the types? -/
def hasD : Ty → TypeId → Bool
  | .dy t _ r, u => match Nat.beq t u with
    | true => true
    | false => hasD r u
  | _, _ => false
/-- types that are told apart, and none -/
def dyOK : Ty → Bool
  | .dy t _ r => !(hasD r t) && dyOK r
  | .dn => true
  | _ => false
/-- is it of this type? -/
def isD : (t : Ty) → TypeId → Val t → Bool
  | .dy t _ r, u, x => match Nat.beq t u with
    | true => match x with
      | .inl _ => true
      | .inr _ => false
    | false => match x with
      | .inl _ => false
      | .inr y => isD r u y
  | _, _, _ => false
/-- what is of this type -/
def tyP (b : Bool) (a r : Ty) : Ty := match b with
  | true => a
  | false => r
def tyD : Ty → TypeId → Ty
  | .dy t a r, u => tyP (Nat.beq t u) a (tyD r u)
  | _, _ => .unit
def pickD (b : Bool) (a r : Ty) (x : Val a) (y : Val r) : Val (tyP b a r) := match b with
  | true => x
  | false => y
def outD : (t : Ty) → (u : TypeId) → Val t → Val (tyD t u)
  | .dy t a r, u, x => pickD (Nat.beq t u) a (tyD r u) (match x with | .inl y => y | .inr _ => dfl a) (outD r u (match x with | .inl _ => dfl r | .inr y => y))
  | .int _, _, _ | .bool, _, _ | .str, _, _ | .flt, _, _ | .err, _, _ | .unit, _, _ | .nat, _, _ | .pair _ _, _, _ | .st _, _, _ | .sl _, _, _ | .ref _, _, _ | .clo _ _, _, _ | .hd _, _, _ | .mh _, _, _ | .dn, _, _ => ()

def typeAssertA (E : Env) (x : AV) (t : TypeId) (ok : Bool) : HM AV :=
  match E.ty t with
  | none => .fail
  | some ti => match ti.desc with
    | .iface => .fail
    | _ => match x, ok with
      | .iface u y, true => if u = t then .ret (.tup [y, .v (.bool true)]) else .ret (.tup [oneZero ti, .v (.bool false)])
      | .iface u y, false => if u = t then .ret y else .fail
      | .v .nilIface, true => .ret (.tup [oneZero ti, .v (.bool false)])
      | .dy dt x, true => match dyOK dt, hasD dt t with
        | true, true => match (tyD dt t).isAgg || (tyD dt t).one with
          | true => .dec (isD dt t x) (.ret (.tup [encA (tyD dt t) (outD dt t x), .v (.bool true)])) (.ret (.tup [oneZero ti, .v (.bool false)]))
          | false => .fail
        | true, false => .ret (.tup [oneZero ti, .v (.bool false)])
        | _, _ => .fail
      | .er e, true => if t = E.atT then .dec e.isAt (.ret (.tup [.iptr [.v (.int .i64 e.pos), .er (.s e.gix)] 0, .v (.bool true)])) (.ret (.tup [oneZero ti, .v (.bool false)])) else .fail
      | _, _ => .fail

def ofConst : Value → AV
  | .agg cs => .agg (cs.toList.map .v)
  | v => .v v

def aeval (env : List AV) : Operand → AV
  | .tmp t => env.getD t .top
  | .const v => ofConst v
  | .global g => .gptr g 0
  | .func f => .fn (.func f) [] []

/-- the elements of a slice that is written out, one after the other -/
def partsA (N : Names) (t : Ty) (i : Nat) : List (Nat × AV) → Option (List (Val t))
  | [] => some []
  | (j, x) :: r => match decA N t x, partsA N t (i + 1) r with
    | some y, some l => if j = i then some (y :: l) else none
    | _, _ => none

def TyI.part (ei : TyI) : Option Ty := match ei.ty with
  | some t => some t
  | none => ei.cty

def buildA (E : Env) (ei : TyI) (newId n : Nat) (parts : List (Nat × AV)) : HM Dl :=
  match ei.part with
  | none => .fail
  | some t => (exportN.exportL 8 (parts.map (·.2))).bind fun (ys, ids) => (freezeAll ids).bind fun fz =>
    match partsA E.toNames t 0 ((parts.map (·.1)).zip ys) with
    | some l => if l.length = n ∧ n * ei.size ≤ 16777216 then .ret { x := .lsl t (.l newId) 0 n 0, wr := fz ++ [(.l newId, { ct := .sl t l, gen := 0, frozen := false })] } else .fail
    | none => .fail

/-- one operation -/
def aop (E : Env) (ρ : Operand → AV) (newId : Nat) (o : Op) : HM Dl :=
  match o with
  | .move x | .assign x => .ret (val (ρ x))
  | .pick c a b => match ρ c with
    | .v (.bool t) => .dec t (.ret (val (ρ a))) (.ret (val (ρ b)))
    | _ => .fail
  | .alloc t => match E.ty t with
    | some ti => match E.kind t with
      | none => .ret { x := .lptr (.l newId) 0 0 0, wr := [(.l newId, { ct := .box ti.zero, gen := 0, frozen := false })] }
      | some (k, _) => newOA E ti k ti.zero
    | none => .fail
  | .box t x => match E.ty t, (ρ x).cells with
    | some ti, some cs => if cs.all AV.isCell ∧ cs.length = ti.size then (match E.kind t with
      | none => .ret { x := .lptr (.l newId) 0 0 0, wr := [(.l newId, { ct := .box cs, gen := 0, frozen := false })] }
      | some (k, _) => newOA E ti k cs) else .fail
    | _, _ => .fail
  | .build t parts => match E.ty t with
    | some ti => match ti.desc with
      | .struct fs => match fillA (fun i => fs[i]?.map (·.2)) ti.zero (parts.toList.map fun (i, x) => (i, ρ x)) with
        | some cs => .ret (val (.agg cs))
        | none => .fail
      | .arr _ e => match E.ty e with
        | some ei => match fillA (fun i => some (i * ei.size, ei.size)) ti.zero (parts.toList.map fun (i, x) => (i, ρ x)) with
          | some cs => .ret (val (.agg cs))
          | none => .fail
        | none => .fail
      | _ => .fail
    | none => .fail
  | .buildSlice t n parts => match elemT E t with
    | some ei => buildA E ei newId n (parts.toList.map fun (i, x) => (i, ρ x))
    | none => .fail
  | .load t a => (loadA E t (ρ a)).bind fun x => .ret (val x)
  | .store t a x => storeA E t (ρ a) (ρ x)
  | .nilCheck x => match ρ x with
    | .lptr id i j g => .ret (val (.lptr id i j g))
    | .gptr g j => .ret (val (.gptr g j))
    | .iptr r j => .ret (val (.iptr r j))
    | .iface t y => .ret (val (.iface t y))
    | .fn (.func f) a c => .ret (val (.fn (.func f) a c))
    | .hd k x => .chk x.isSome (.ret (val (.lptr (.o k (x.getD 0) 0) 0 0 0)))
    | _ => .fail
  | .binOp op t x y _ => (binA E op t (isConst x || isConst y) (ρ x) (ρ y)).bind fun x => .ret (val x)
  | .unOp op _ x => match op, ρ x with
    | .not, .v (.bool b) => .ret (val (.v (.bool !b)))
    | .neg, .v (.int k n) => .ret (val (.v (.int k (k.wrap (0 - n)))))
    | _, _ => .fail
  | .convert s d x => (convA E s d (ρ x)).bind fun x => .ret (val x)
  | .makeInterface t x => match E.ty t with
    | some ti => match ti.desc with
      | .iface => .fail
      | _ => .ret (val (.iface t (ρ x)))
    | none => .fail
  | .makeFunc f a c => .ret (val (.fn f (a.toList.map ρ) (c.toList.map ρ)))
  | .makeSlice t l c => match elemT E t, (ρ l).int?, (ρ c).int? with
    | some ei, some (_, n), some (_, m) => match ei.ty with
      | some u => .chk (decide (0 ≤ n)) (.chk (decide (n ≤ m)) (.chk (decide (m * (ei.bytes + 1) ≤ most))
        (.ret { x := .lsl u (.l newId) 0 n.toNat 0, wr := [(.l newId, { ct := .sl u (List.replicate n.toNat (dfl u)), gen := 0, frozen := false })] })))
      | none => .fail
    | _, _, _ => .fail
  | .slice t x lo hi mx => match mx with
    | some m => emptyA E t newId (ρ x) (lo.map ρ) (hi.map ρ) (ρ m)
    | none => match E.ty t with
      | some ti => match ti.desc with
        | .slice e => match E.ty e with
          | some ei => (sliceA ei.size (ρ x) (lo.map ρ) (hi.map ρ)).bind fun x => .ret (val x)
          | none => .fail
        | .str => match ρ x with
          | .v (.string s) => (cutA s (lo.map ρ) (hi.map ρ)).bind fun x => .ret (val x)
          | _ => .fail
        | _ => .fail
      | none => .fail
  | .fieldAddr s x f => match fieldOf E s f with
    | some fd => if fd.2.2 = 0 then .fail else (one ((ρ x).moved fd.2.1)).bind fun x => .ret (val x)
    | none => .fail
  | .field s x f => match fieldOf E s f, ρ x with
    | some fd, .agg l => match E.ty fd.1 with
      | some ti => (one (partA ti l fd.2.1)).bind fun x => .ret (val x)
      | none => .fail
    | _, _ => .fail
  | .indexAddr t x ix => (indexAddrA E t (ρ x) (ρ ix)).bind fun x => .ret (val x)
  | .index t x ix => (indexA E t (ρ x) (ρ ix)).bind fun x => .ret (val x)
  | .lookup t m k ok => (lookupA E t (ρ m) (ρ k) ok).bind fun x => .ret (val x)
  | .mapUpdate t m k x | .insert t m k x => mapPutA E t (ρ m) (ρ k) (ρ x)
  | .mapEntry t m k => mapEntryA E t (ρ m) (ρ k)
  | .entryStore t m k x => entryStoreA E t (ρ m) (ρ k) (ρ x)
  | .makeMap t none => makeMapA E t
  | .typeAssert x _ t ok => (typeAssertA E (ρ x) t ok).bind fun x => .ret (val x)
  | .extract t i => match ρ t with
    | .tup l => (one l[i]?).bind fun x => .ret (val x)
    | _ => .fail
  | .call c => match c.callee with
    | .builtin b => builtinA E newId b c.argTypes.toList (c.args.toList.map ρ)
    | .value f => match ρ f with
      | .fn (.func g) a cp => callA E g newId (a ++ c.args.toList.map ρ ++ cp)
      | _ => .fail
    | .invoke _ _ => .fail
  | _ => .fail

structure St where
  env : List AV
  heap : List (Option Blk)

def St.rd (s : St) (id : Ref) : Option Blk := rdH s.heap id

def putAll (h : List (Option Blk)) : List (Ref × Blk) → List (Option Blk)
  | [] => h
  | (i, b) :: r => putAll (putH h i b) r

def putD (env : List AV) (d : Option Tmp) (x : AV) : List AV :=
  match d with
  | some k => env.set k x
  | none => env

def St.app (s : St) (d : Option Tmp) (δ : Dl) : St := ⟨putD s.env d δ.x, putAll s.heap δ.wr⟩

/-- what an operation read and wrote of the heap -/
structure Fp where
  i : Nat
  rs : List Nat
  ws : List Nat

/-- how many new places an operation may take -/
def wid : Op → Nat
  | .call c => match c.callee with
    | .value _ => 8
    | _ => 1
  | _ => 1

/-- what is written is new, or was there -/
def touch {α : Type} (newId n : Nat) : List (Ref × Blk) → HM α → HM α
  | [], k => k
  | p :: r, k => match Nat.ble newId p.1.ix && Nat.blt p.1.ix (newId + n) with
    | true => touch newId n r k
    | false => .rd (.l p.1.ix) fun _ => touch newId n r k

/-- an operation under its guard: what it makes (none: it is left out) -/
def stepH (E : Env) (ops : List Oper) (newId : Nat) (o : Oper) (env : List AV) : HM (Option Dl) :=
  match o.guard with
  | none => (aop E (aeval env) newId o.op).bind fun δ => touch newId (wid o.op) δ.wr (.ret (some δ))
  | some (j, want) => match (ops[j]?).bind (·.dst) with
    | some d => match env.getD d .top with
      | .v (.bool b) => match want with
        | true => .dec b ((aop E (aeval env) newId o.op).bind fun δ => touch newId (wid o.op) δ.wr (.ret (some δ))) (.ret none)
        | false => .dec b (.ret none) ((aop E (aeval env) newId o.op).bind fun δ => touch newId (wid o.op) δ.wr (.ret (some δ)))
      | .v (.tuple _) => .ret none
      | _ => .fail
    | none => .fail

/-- (what is left out makes no value) -/
def dlOf : Option Dl → Dl
  | some δ => δ
  | none => { x := .v (.tuple #[]) }

def stepA (E : Env) (call : CallF) (ops : List Oper) (newId i : Nat) (o : Oper) (s : St) : Option (St × Fp) :=
  match (stepH E ops newId o s.env).run call s.rd with
  | some (δ, l) => some (s.app o.dst (dlOf δ), ⟨i, l, (dlOf δ).wr.map (·.1.ix)⟩)
  | none => none

def consF (f : Fp) (l : List Fp) : List Fp := match f.rs, f.ws with
  | [], [] => l
  | _, _ => f :: l

def runOps (E : Env) (call : CallF) (ops : List Oper) : Nat → Nat → List Oper → St → Option (St × List Fp)
  | _, _, [], s => some (s, [])
  | n, i, o :: r, s => match stepA E call ops n i o s with
    | some (s', f) => match runOps E call ops (n + wid o.op) (i + 1) r s' with
      | some (t, l) => some (t, consF f l)
      | none => none
    | none => none

/-- how many new places a region may take -/
def widL : List Oper → Nat
  | [] => 0
  | o :: r => wid o.op + widL r

/-- what is to be done ahead of an operation, by its edges (a bit for each) -/
def maskOf (acc : List Nat) : List Edge → Nat
  | [] => 0
  | e :: r => match Region.binds .any e with
    | true => acc.getD e.on 0 ||| (1 <<< e.on) ||| maskOf acc r
    | false => maskOf acc r

def masks : List Oper → List Nat → List Nat
  | [], acc => acc
  | o :: r, acc => masks r (acc ++ [maskOf acc o.after.toList])

def meets (a b : List Nat) : Bool := a.any fun x => b.contains x

/-- what is left open by the order does not hang on it -/
def fpsOK (ms : List Nat) : List Fp → Bool
  | [] => true
  | f :: r => (r.all fun g => !(meets f.ws g.rs || meets f.ws g.ws || meets f.rs g.ws) || (ms.getD g.i 0).testBit f.i) && fpsOK ms r

/-- nothings at the end fall away -/
def trim : List (Option Blk) → List (Option Blk)
  | [] => []
  | x :: r => match x, trim r with
    | none, [] => []
    | x, r' => x :: r'

inductive AX where
  | normal
  | exit (id : Nat)
  | ret
  deriving DecidableEq

def nloops : Code → Nat
  | .seq a b => nloops a + nloops b
  | .cond _ a b => nloops a + nloops b
  | .block _ c => nloops c
  | .loop c => nloops c + 1
  | .scope c => nloops c
  | _ => 0

def loopsOf : Code → List Code
  | .seq a b => loopsOf a ++ loopsOf b
  | .cond _ a b => loopsOf a ++ loopsOf b
  | .block _ c => loopsOf c
  | .loop c => c :: loopsOf c
  | .scope c => loopsOf c
  | _ => []

def regionA (E : Env) (call : CallF) (ops : List Oper) (draw : Bool) (s : St) : Option (AX × St) :=
  match runOps E call ops s.heap.length 0 ops ⟨s.env, s.heap ++ List.replicate (widL ops) none⟩ with
  | some (s', l) => match draw, fpsOK (masks ops []) l with
    | true, false => none
    | _, _ => some (.normal, ⟨s'.env, trim s'.heap⟩)
  | none => none

def run (E : Env) (call : CallF) (loop : Nat → St → Option (AX × St)) : Nat → Code → St → Option (AX × St)
  | _, .skip, s => some (.normal, s)
  | _, .region _ ops draw, s => regionA E call ops.toList draw s
  | k, .seq a b, s => match run E call loop k a s with
    | some (.normal, s') => run E call loop (k + nloops a) b s'
    | r => r
  | k, .cond c a b, s => match aeval s.env c with
    | .v (.bool t) => match t with
      | true => run E call loop k a s
      | false => run E call loop (k + nloops a) b s
    | _ => none
  | k, .block id c, s => match run E call loop k c s with
    | some (.exit id', s') => if id' = id then some (.normal, s') else some (.exit id', s')
    | r => r
  | k, .scope c, s => run E call loop k c s
  | _, .label _, s => some (.normal, s)
  | k, .loop _, s => loop k s
  | _, .exit id, s => some (.exit id, s)
  | _, .ret, s => some (.ret, s)
  | _, _, _ => none

/-! The same, handed on: what comes behind is a function of what is made ('cond' and 'bind' stay in sight). -/

abbrev CallK (R : Type) := FuncId → List AV → List Blk → Nat → (AV → List Blk → List (Nat × Blk) → Option R) → Option R

def HM.runK {α R : Type} (callK : CallK R) (h : Ref → Option Blk) : HM α → List Nat → (α → List Nat → Option R) → Option R
  | .ret a, l, k => k a l
  | .rd id f, l, k => match h id with
    | some b => (f b).runK callK h (l ++ [id.ix]) k
    | none => none
  | .chk b f, l, k => cond b (f.runK callK h l k) none
  | .dec b x y, l, k => cond b (x.runK callK h l k) (y.runK callK h l k)
  | .call f as bs n g, l, k => callK f as bs n fun r ts wr => (g r ts wr).runK callK h l k
  | .fail, _, _ => none

/-- a truth that has been asked for is known from there on -/
def setB (env : List AV) (d : Nat) (b : Bool) : List AV := env.set d (.v (.bool b))

def doneK {R : Type} (E : Env) (callK : CallK R) (newId : Nat) (o : Oper) (s : St) (k : St → List Nat → List Nat → Option R) : Option R :=
  ((aop E (aeval s.env) newId o.op).bind fun δ => touch newId (wid o.op) δ.wr (.ret δ)).runK callK s.rd [] fun δ rs => k (s.app o.dst δ) rs (δ.wr.map (·.1.ix))

def skipK {R : Type} (o : Oper) (s : St) (k : St → List Nat → List Nat → Option R) : Option R := k (s.app o.dst (dlOf none)) [] []

def stepK {R : Type} (E : Env) (callK : CallK R) (ops : List Oper) (newId : Nat) (o : Oper) (s : St) (k : St → List Nat → List Nat → Option R) : Option R :=
  match o.guard with
  | none => doneK E callK newId o s k
  | some (j, want) => match (ops[j]?).bind (·.dst) with
    | some d => match s.env.getD d .top with
      | .v (.bool b) => match want with
        | true => cond b (doneK E callK newId o ⟨setB s.env d true, s.heap⟩ k) (skipK o ⟨setB s.env d false, s.heap⟩ k)
        | false => cond b (skipK o ⟨setB s.env d true, s.heap⟩ k) (doneK E callK newId o ⟨setB s.env d false, s.heap⟩ k)
      | .v (.tuple _) => skipK o s k
      | _ => none
    | none => none

def runOpsK {R : Type} (E : Env) (callK : CallK R) (ops : List Oper) : Nat → Nat → List Oper → St → List Fp → (St → List Fp → Option R) → Option R
  | _, _, [], s, l, k => k s l
  | n, i, o :: r, s, l, k => stepK E callK ops n o s fun s' rs ws => runOpsK E callK ops (n + wid o.op) (i + 1) r s' (l ++ consF ⟨i, rs, ws⟩ []) k

def regionK {R : Type} (E : Env) (callK : CallK R) (ops : List Oper) (draw : Bool) (s : St) (k : AX → St → Option R) : Option R :=
  runOpsK E callK ops s.heap.length 0 ops ⟨s.env, s.heap ++ List.replicate (widL ops) none⟩ [] fun s' l =>
    match draw, fpsOK (masks ops []) l with
    | true, false => none
    | _, _ => k .normal ⟨s'.env, trim s'.heap⟩

def runK {R : Type} (E : Env) (callK : CallK R) (loopK : Nat → St → (AX → St → Option R) → Option R) :
    Nat → Code → St → (AX → St → Option R) → Option R
  | _, .skip, s, k => k .normal s
  | _, .region _ ops draw, s, k => regionK E callK ops.toList draw s k
  | n, .seq a b, s, k => runK E callK loopK n a s fun e s' => match e with
    | .normal => runK E callK loopK (n + nloops a) b s' k
    | e => k e s'
  | n, .cond c a b, s, k => match aeval s.env c with
    | .v (.bool t) => match c with
      | .tmp d => cond t (runK E callK loopK n a ⟨setB s.env d true, s.heap⟩ k) (runK E callK loopK (n + nloops a) b ⟨setB s.env d false, s.heap⟩ k)
      | _ => cond t (runK E callK loopK n a s k) (runK E callK loopK (n + nloops a) b s k)
    | _ => none
  | n, .block id c, s, k => runK E callK loopK n c s fun e s' => match e with
    | .exit id' => if id' = id then k .normal s' else k (.exit id') s'
    | e => k e s'
  | n, .scope c, s, k => runK E callK loopK n c s k
  | _, .label _, s, k => k .normal s
  | n, .loop _, s, k => loopK n s k
  | _, .exit id, s, k => k (.exit id) s
  | _, .ret, s, k => k .ret s
  | _, _, _, _ => none

end Go.Eng

/-
  The abstract machine, part 3: what plain values stand for in a world.
-/
namespace Go.Eng

/-- A reading: what a world's cells hold, which blocks nobody changes any more, where the program's errors lie. -/
structure Stat where
  S : Nat → Addr        -- where the error lies that a variable holds
  N : Names
  V : Nat → Prop        -- which variables hold an error of their own

structure RC where
  C : Nat → Nat → Option Value
  I : Nat → Prop
  T : Stat
  H : Nat → Nat → Option Nat   -- where the objects of each kind lie

def RepE (R : RC) : Er → Value → Prop
  | .nil, y => y = .nilIface
  | .s g, y => R.T.V g ∧ y = .iface R.T.N.errT (.pointer (some (R.T.S g)))
  | .at p g, y => ∃ b o, y = .iface R.T.N.atT (.pointer (some ⟨b, o, none⟩)) ∧ R.I b ∧ R.C b o = some (.int .i64 p) ∧
      R.T.V g ∧ R.C b (o + 1) = some (.iface R.T.N.errT (.pointer (some (R.T.S g))))

/-- cells lie at a place -/
def At (R : RC) (cs : List Value) (b o : Nat) : Prop := ∀ j v, cs[j]? = some v → R.C b (o + j) = some v

def RepT (R : RC) : (t : Ty) → Val t → List Value → Prop
  | .int k, n, cs => cs = [.int k n]
  | .bool, b, cs => cs = [.bool b]
  | .str, s, cs => cs = [.string s]
  | .flt, b, cs => cs = [.float .f64 b]
  | .err, e, cs => ∃ y, cs = [y] ∧ RepE R e y
  | .unit, _, cs => cs = []
  | .nat, _, cs => cs = []
  | .pair a b, p, cs => ∃ c d, cs = c ++ d ∧ RepT R a p.1 c ∧ RepT R b p.2 d
  | .st a, x, cs => RepT R a x cs
  | .sl a, l, cs => ∃ ad cap, cs = [.slice ad l.length cap] ∧ l.length ≤ cap ∧
      (l.length ≠ 0 → ∃ b o, ad = some ⟨b, o, none⟩ ∧ R.I b ∧ ∀ i, i < l.length → ∃ c, RepT R a (l.getD i (dfl a)) c ∧ At R c b (o + i * a.size)) ∧ (ad = none → cap = 0)
  | .ref a, x, cs => ∃ b o, cs = [.pointer (some ⟨b, o, none⟩)] ∧ R.I b ∧ ∃ c, RepT R a x c ∧ At R c b o
  | .clo f c, x, cs => ∃ cap : Array Value, cs = [.func (.func f) #[] cap] ∧ RepT R c x cap.toList
  | .hd k, x, cs => match x with
    | none => cs = [.pointer none]
    | some i => ∃ b, R.H k i = some b ∧ cs = [.pointer (some ⟨b, 0, none⟩)]
  | .mh k, x, cs => match x with
    | none => cs = [.map none]
    | some i => ∃ b, R.H k i = some b ∧ cs = [.map (some b)]
  | .dn, _, cs => cs = [.nilIface]
  | .dy t a r, x, cs => match x with
    | .inl y => ∃ ds, RepT R a y ds ∧ cs = [.iface t (match a.isAgg with | true => .agg ds.toArray | false => ds.getD 0 undef)]
    | .inr y => RepT R r y cs ∧ ∃ v, cs = [v]

/-- where a block of the call's own lies -/
structure Pl where
  b : Nat
  o : Nat
  w : Nat
  gen : Nat
  size : Nat
  virt : Bool

mutual
def Rep (R : RC) (L : Ref → Option Pl) : AV → Value → Prop
  | .v x, y => y = x
  | .er e, y => RepE R e y
  | .agg l, y => ∃ cs : Array Value, y = .agg cs ∧ RepL R L l cs.toList
  | .tup l, y => ∃ cs : Array Value, y = .tuple cs ∧ RepL R L l cs.toList
  | .isl t l, y => RepT R (.sl t) l [y]
  | .nsl t l, y => RepT R (.sl t) l [y] ∧ ∃ a n k, y = .slice (some a) n k
  | .iptr row j, y => ∃ b o, y = .pointer (some ⟨b, o + j, none⟩) ∧ R.I b ∧ ∃ cs, RepL R (fun _ => none) row cs ∧ At R cs b o
  | .gptr g j, y => y = .pointer (some ⟨g, j, none⟩)
  | .lsl t id i n gen, y => ∃ p, L id = some p ∧ p.w = t.size ∧ gen ≤ p.gen ∧ ∃ ad cap, y = .slice ad n cap ∧ n ≤ cap ∧ (n ≠ 0 → ad.isSome = true) ∧
      (p.gen = gen → cap = 0 ∨ (p.virt = false ∧ ad = some ⟨p.b, p.o + i * p.w, none⟩ ∧ p.o + (i + cap) * p.w ≤ p.size))
  | .lptr id i j gen, y => ∃ p, L id = some p ∧ gen ≤ p.gen ∧ ∃ q : Addr, y = .pointer (some q) ∧ (p.gen = gen → q = ⟨p.b, p.o + i * p.w + j, none⟩)
  | .iface t x, y => ∃ z, y = .iface t z ∧ Rep R L x z
  | .fn f a c, y => ∃ a' c' : Array Value, y = .func f a' c' ∧ RepL R L a a'.toList ∧ RepL R L c c'.toList
  | .hd k x, y => RepT R (.hd k) x [y]
  | .mh k x, y => RepT R (.mh k) x [y]
  | .dy t x, y => RepT R t x [y]
  | .top, _ => True
def RepL (R : RC) (L : Ref → Option Pl) : List AV → List Value → Prop
  | [], ys => ys = []
  | x :: r, ys => ∃ y t, ys = y :: t ∧ Rep R L x y ∧ RepL R L r t
end

/-- a reading that goes on: what nobody changes is as it was -/
structure RLe (R R' : RC) : Prop where
  i : ∀ b, R.I b → R'.I b
  c : ∀ b o, R.I b → R'.C b o = R.C b o
  t : R'.T = R.T
  h : ∀ k i b, R.H k i = some b → R'.H k i = some b

theorem RLe.refl (R : RC) : RLe R R := ⟨fun _ h => h, fun _ _ _ => rfl, rfl, fun _ _ _ h => h⟩
theorem RLe.trans {R R' R'' : RC} (h : RLe R R') (g : RLe R' R'') : RLe R R'' :=
  ⟨fun b hb => g.i b (h.i b hb), fun b o hb => (g.c b o (h.i b hb)).trans (h.c b o hb), g.t.trans h.t, fun k i b hb => g.h k i b (h.h k i b hb)⟩

/-- places that go on: each stays, or is left for a later one; an object's variable stays -/
def LLe (L L' : Ref → Option Pl) : Prop := ∀ id p, L id = some p → ∃ p', L' id = some p' ∧ p'.w = p.w ∧ (p' = p ∨ (p.gen < p'.gen ∧ ¬ id.isBox))

theorem LLe.refl (L : Ref → Option Pl) : LLe L L := fun _ p h => ⟨p, h, rfl, .inl rfl⟩
theorem LLe.trans {L L' L'' : Ref → Option Pl} (h : LLe L L') (g : LLe L' L'') : LLe L L'' := by
  intro id p hp
  obtain ⟨p', hp', ew, e⟩ := h id p hp
  obtain ⟨p'', hp'', ew', e'⟩ := g id p' hp'
  refine ⟨p'', hp'', ew'.trans ew, ?_⟩
  rcases e with rfl | ⟨e, hb⟩
  · exact e'
  · rcases e' with rfl | ⟨e', _⟩
    · exact .inr ⟨e, hb⟩
    · exact .inr ⟨Nat.lt_trans e e', hb⟩

/-- where objects lie, by their places -/
def hOf (L : Ref → Option Pl) (k i : Nat) : Option Nat := (L (.o k i 0)).map (·.b)

theorem LLe.box {L L' : Ref → Option Pl} (h : LLe L L') {k i : Nat} {p : Pl} (e : L (.o k i 0) = some p) : L' (.o k i 0) = some p := by
  obtain ⟨p', hp', _, rfl | ⟨_, hb⟩⟩ := h _ p e
  · exact hp'
  · exact absurd trivial hb

theorem LLe.hOf {L L' : Ref → Option Pl} (h : LLe L L') {k i b : Nat} (e : hOf L k i = some b) : hOf L' k i = some b := by
  simp only [Go.Eng.hOf, Option.map_eq_some_iff] at e ⊢
  obtain ⟨p, hp, rfl⟩ := e
  exact ⟨p, h.box hp, rfl⟩

theorem At.mono {R R' : RC} (h : RLe R R') {cs : List Value} {b o : Nat} (hb : R.I b) (ha : At R cs b o) : At R' cs b o :=
  fun j v hj => by rw [h.c b _ hb]; exact ha j v hj

theorem RepE.mono {R R' : RC} (h : RLe R R') {e : Er} {y : Value} (he : RepE R e y) : RepE R' e y := by
  cases e with
  | nil => exact he
  | s g => unfold RepE at *; rw [h.t]; exact he
  | «at» p g =>
    unfold RepE at *
    obtain ⟨b, o, rfl, hb, h1, hv, h2⟩ := he
    rw [h.t]
    exact ⟨b, o, rfl, h.i b hb, by rw [h.c b _ hb]; exact h1, hv, by rw [h.c b _ hb]; exact h2⟩

theorem RepT.mono {R R' : RC} (h : RLe R R') : ∀ (t : Ty) {x : Val t} {cs : List Value}, RepT R t x cs → RepT R' t x cs
  | .int _, _, _, hx | .bool, _, _, hx | .str, _, _, hx | .flt, _, _, hx | .unit, _, _, hx | .nat, _, _, hx => hx
  | .err, _, _, ⟨y, e, hy⟩ => ⟨y, e, hy.mono h⟩
  | .pair a b, _, _, ⟨c, d, e, hc, hd⟩ => ⟨c, d, e, RepT.mono h a hc, RepT.mono h b hd⟩
  | .st a, _, _, hx => RepT.mono h a hx
  | .sl a, _, _, ⟨ad, cap, e, hl, hr, hz⟩ => ⟨ad, cap, e, hl, fun hn => by
      obtain ⟨b, o, ea, hb, hi⟩ := hr hn
      refine ⟨b, o, ea, h.i b hb, fun i hlt => ?_⟩
      obtain ⟨c, hc, hat⟩ := hi i hlt
      exact ⟨c, RepT.mono h a hc, hat.mono h hb⟩, hz⟩
  | .ref a, _, _, ⟨b, o, e, hb, c, hc, hat⟩ => ⟨b, o, e, h.i b hb, c, RepT.mono h a hc, hat.mono h hb⟩
  | .clo _ c, _, _, ⟨cap, e, hc⟩ => ⟨cap, e, RepT.mono h c hc⟩
  | .hd k, x, _, hx => by
    cases x with
    | none => exact hx
    | some i =>
      obtain ⟨b, hb, e⟩ := hx
      exact ⟨b, h.h k i b hb, e⟩
  | .mh k, x, _, hx => by
    cases x with
    | none => exact hx
    | some i =>
      obtain ⟨b, hb, e⟩ := hx
      exact ⟨b, h.h k i b hb, e⟩
  | .dn, _, _, hx => hx
  | .dy t a r, x, _, hx => by
    cases x with
    | inl y =>
      obtain ⟨ds, hd, e⟩ := hx
      exact ⟨ds, RepT.mono h a hd, e⟩
    | inr y =>
      obtain ⟨hd, e⟩ := hx
      exact ⟨RepT.mono h r hd, e⟩

mutual
theorem Rep.mono {R R' : RC} {L L' : Ref → Option Pl} (h : RLe R R') (g : LLe L L') : ∀ {x : AV} {y : Value}, Rep R L x y → Rep R' L' x y
  | .v _, _, hx => by simpa only [Rep] using hx
  | .er _, _, hx => by simp only [Rep] at *; exact hx.mono h
  | .agg l, _, hx => by
    simp only [Rep] at *
    obtain ⟨cs, e, hl⟩ := hx
    exact ⟨cs, e, RepL.mono h g hl⟩
  | .tup l, _, hx => by
    simp only [Rep] at *
    obtain ⟨cs, e, hl⟩ := hx
    exact ⟨cs, e, RepL.mono h g hl⟩
  | .isl t l, _, hx => by simp only [Rep] at *; exact RepT.mono h (.sl t) hx
  | .nsl t l, _, hx => by simp only [Rep] at *; exact ⟨RepT.mono h (.sl t) hx.1, hx.2⟩
  | .iptr row j, _, hx => by
    simp only [Rep] at *
    obtain ⟨b, o, e, hb, cs, hr, ha⟩ := hx
    exact ⟨b, o, e, h.i b hb, cs, RepL.mono h (LLe.refl _) hr, ha.mono h hb⟩
  | .gptr _ _, _, hx => by simpa only [Rep] using hx
  | .lsl t id i n gen, _, hx => by
    simp only [Rep] at *
    obtain ⟨p, hp, hw, hg, ad, cap, e, hl, ha, hc⟩ := hx
    obtain ⟨p', hp', ew, e'⟩ := g id p hp
    rcases e' with rfl | ⟨hlt, _⟩
    · exact ⟨p', hp', hw, hg, ad, cap, e, hl, ha, hc⟩
    · exact ⟨p', hp', ew.trans hw, by omega, ad, cap, e, hl, ha, fun he => by omega⟩
  | .lptr id i j gen, _, hx => by
    simp only [Rep] at *
    obtain ⟨p, hp, hg, q, e, hc⟩ := hx
    obtain ⟨p', hp', ew, e'⟩ := g id p hp
    rcases e' with rfl | ⟨hlt, _⟩
    · exact ⟨p', hp', hg, q, e, hc⟩
    · exact ⟨p', hp', by omega, q, e, fun he => by omega⟩
  | .iface t x, _, hx => by
    simp only [Rep] at *
    obtain ⟨z, e, hz⟩ := hx
    exact ⟨z, e, Rep.mono h g hz⟩
  | .fn f a c, _, hx => by
    simp only [Rep] at *
    obtain ⟨a', c', e, ha, hc⟩ := hx
    exact ⟨a', c', e, RepL.mono h g ha, RepL.mono h g hc⟩
  | .hd k x, _, hx => by simp only [Rep] at *; exact RepT.mono h (.hd k) hx
  | .mh k x, _, hx => by simp only [Rep] at *; exact RepT.mono h (.mh k) hx
  | .dy t x, _, hx => by simp only [Rep] at *; exact RepT.mono h t hx
  | .top, _, _ => by simp only [Rep]
theorem RepL.mono {R R' : RC} {L L' : Ref → Option Pl} (h : RLe R R') (g : LLe L L') : ∀ {l : List AV} {ys : List Value}, RepL R L l ys → RepL R' L' l ys
  | [], _, hx => by simpa only [RepL] using hx
  | x :: r, _, hx => by
    simp only [RepL] at *
    obtain ⟨y, t, e, hy, ht⟩ := hx
    exact ⟨y, t, e, Rep.mono h g hy, RepL.mono h g ht⟩
end

theorem RepL.length {R : RC} {L : Ref → Option Pl} : ∀ {l : List AV} {ys : List Value}, RepL R L l ys → ys.length = l.length
  | [], _, h => by simp only [RepL] at h; simp [h]
  | _ :: _, _, h => by
    simp only [RepL] at h
    obtain ⟨y, t, rfl, _, ht⟩ := h
    simp [ht.length]

theorem RepL.get {R : RC} {L : Ref → Option Pl} : ∀ {l : List AV} {ys : List Value} (_ : RepL R L l ys) (i : Nat) (x : AV), l[i]? = some x → ∃ y, ys[i]? = some y ∧ Rep R L x y
  | [], _, _, i, x, hi => by simp at hi
  | a :: r, _, h, i, x, hi => by
    simp only [RepL] at h
    obtain ⟨y, t, rfl, hy, ht⟩ := h
    cases i with
    | zero => simp at hi; subst hi; exact ⟨y, rfl, hy⟩
    | succ i => simp at hi; obtain ⟨z, hz, hr⟩ := ht.get i x hi; exact ⟨z, by simpa using hz, hr⟩

theorem RepL.mk {R : RC} {L : Ref → Option Pl} : ∀ {l : List AV} {ys : List Value}, ys.length = l.length → (∀ (i : Nat) (x : AV) (y : Value), l[i]? = some x → ys[i]? = some y → Rep R L x y) → RepL R L l ys
  | [], ys, hl, _ => by simp only [RepL]; exact List.length_eq_zero_iff.1 (by simpa using hl)
  | x :: r, ys, hl, h => by
    cases ys with
    | nil => simp at hl
    | cons y t =>
      simp only [RepL]
      exact ⟨y, t, rfl, h 0 x y rfl rfl, RepL.mk (by simpa using hl) fun i a b ha hb => h (i + 1) a b (by simpa using ha) (by simpa using hb)⟩

theorem RepL.append {R : RC} {L : Ref → Option Pl} : ∀ {l m : List AV} {xs ys : List Value}, RepL R L l xs → RepL R L m ys → RepL R L (l ++ m) (xs ++ ys)
  | [], _, _, _, h, g => by simp only [RepL] at h; subst h; simpa using g
  | a :: r, _, _, _, h, g => by
    simp only [RepL] at h
    obtain ⟨y, t, rfl, hy, ht⟩ := h
    simp only [List.cons_append, RepL]
    exact ⟨y, _, rfl, hy, ht.append g⟩

/-- what is plain data: the cells are those of its values -/
theorem RepL.ofT {R : RC} {L : Ref → Option Pl} : ∀ (t : Ty) {x : Val t} {cs : List Value}, RepT R t x cs → RepL R L (cellsT t x) cs
  | .int k, _, _, h => by simp only [RepT] at h; subst h; simp [cellsT, RepL, Rep]
  | .bool, _, _, h => by simp only [RepT] at h; subst h; simp [cellsT, RepL, Rep]
  | .str, _, _, h => by simp only [RepT] at h; subst h; simp [cellsT, RepL, Rep]
  | .flt, _, _, h => by simp only [RepT] at h; subst h; simp [cellsT, RepL, Rep]
  | .err, _, _, h => by
    simp only [RepT] at h
    obtain ⟨y, rfl, he⟩ := h
    simp only [cellsT, RepL, Rep]
    exact ⟨y, [], rfl, he, rfl⟩
  | .unit, _, _, h => by simp only [RepT] at h; subst h; simp [cellsT, RepL]
  | .nat, _, _, h => by simp only [RepT] at h; subst h; simp [cellsT, RepL]
  | .pair a b, _, _, h => by
    simp only [RepT] at h
    obtain ⟨c, d, rfl, hc, hd⟩ := h
    simp only [cellsT]
    exact (RepL.ofT a hc).append (RepL.ofT b hd)
  | .st a, _, _, h => by simp only [RepT] at h; simp only [cellsT]; exact RepL.ofT a h
  | .sl a, l, _, h => by
    have h' := h
    simp only [RepT] at h
    obtain ⟨ad, cap, rfl, _⟩ := h
    simp only [cellsT, RepL, Rep]
    exact ⟨_, [], rfl, h', rfl⟩
  | .ref a, x, _, h => by
    simp only [RepT] at h
    obtain ⟨b, o, rfl, hb, c, hc, hat⟩ := h
    simp only [cellsT, RepL, Rep]
    exact ⟨_, [], rfl, ⟨b, o, rfl, hb, c, RepL.ofT a hc, hat⟩, rfl⟩
  | .clo f c, x, _, h => by
    simp only [RepT] at h
    obtain ⟨cap, rfl, hc⟩ := h
    simp only [cellsT, RepL, Rep]
    exact ⟨_, [], rfl, ⟨#[], cap, rfl, rfl, RepL.ofT c hc⟩, rfl⟩
  | .hd k, x, cs, h => by
    have : ∃ y, cs = [y] := by
      cases x with
      | none => exact ⟨_, h⟩
      | some i => obtain ⟨b, _, e⟩ := h; exact ⟨_, e⟩
    obtain ⟨y, rfl⟩ := this
    simp only [cellsT, RepL, Rep]
    exact ⟨y, [], rfl, h, rfl⟩
  | .mh k, x, cs, h => by
    have : ∃ y, cs = [y] := by
      cases x with
      | none => exact ⟨_, h⟩
      | some i => obtain ⟨b, _, e⟩ := h; exact ⟨_, e⟩
    obtain ⟨y, rfl⟩ := this
    simp only [cellsT, RepL, Rep]
    exact ⟨y, [], rfl, h, rfl⟩
  | .dn, _, cs, h => by have h : _ = _ := h; subst h; simp [cellsT, RepL, Rep]
  | .dy t a r, x, cs, h => by
    have : ∃ y, cs = [y] := by
      cases x with
      | inl y => obtain ⟨ds, _, e⟩ := h; exact ⟨_, e⟩
      | inr y => exact h.2
    obtain ⟨y, rfl⟩ := this
    simp only [cellsT, RepL, Rep]
    exact ⟨y, [], rfl, h, rfl⟩


theorem RepL.split {R : RC} {L : Ref → Option Pl} : ∀ {l m : List AV} {ys : List Value}, RepL R L (l ++ m) ys → ∃ c d, ys = c ++ d ∧ RepL R L l c ∧ RepL R L m d
  | [], _, ys, h => ⟨[], ys, rfl, by simp [RepL], by simpa using h⟩
  | x :: r, m, ys, h => by
    simp only [List.cons_append, RepL] at h
    obtain ⟨y, t, rfl, hy, ht⟩ := h
    obtain ⟨c, d, rfl, hc, hd⟩ := ht.split
    exact ⟨y :: c, d, rfl, by simp only [RepL]; exact ⟨y, c, rfl, hy, hc⟩, hd⟩

theorem RepL.toT {R : RC} {L : Ref → Option Pl} : ∀ (t : Ty) {x : Val t} {cs : List Value}, RepL R L (cellsT t x) cs → RepT R t x cs
  | .int k, _, _, h => by simp only [cellsT, RepL, Rep] at h; obtain ⟨y, t, rfl, rfl, rfl⟩ := h; rfl
  | .bool, _, _, h => by simp only [cellsT, RepL, Rep] at h; obtain ⟨y, t, rfl, rfl, rfl⟩ := h; rfl
  | .str, _, _, h => by simp only [cellsT, RepL, Rep] at h; obtain ⟨y, t, rfl, rfl, rfl⟩ := h; rfl
  | .flt, _, _, h => by simp only [cellsT, RepL, Rep] at h; obtain ⟨y, t, rfl, rfl, rfl⟩ := h; rfl
  | .err, _, _, h => by simp only [cellsT, RepL, Rep] at h; obtain ⟨y, t, rfl, he, rfl⟩ := h; exact ⟨y, rfl, he⟩
  | .unit, _, _, h => by simp only [cellsT, RepL] at h; exact h
  | .nat, _, _, h => by simp only [cellsT, RepL] at h; exact h
  | .pair a b, _, _, h => by
    simp only [cellsT] at h
    obtain ⟨c, d, rfl, hc, hd⟩ := h.split
    exact ⟨c, d, rfl, RepL.toT a hc, RepL.toT b hd⟩
  | .st a, _, _, h => by simp only [cellsT] at h; simp only [RepT]; exact RepL.toT a h
  | .sl a, l, _, h => by simp only [cellsT, RepL, Rep] at h; obtain ⟨y, t, rfl, he, rfl⟩ := h; exact he
  | .ref a, x, _, h => by
    simp only [cellsT, RepL, Rep] at h
    obtain ⟨y, t, rfl, ⟨b, o, rfl, hb, cs, hr, ha⟩, rfl⟩ := h
    exact ⟨b, o, rfl, hb, cs, RepL.toT a hr, ha⟩
  | .clo f c, x, _, h => by
    simp only [cellsT, RepL, Rep] at h
    obtain ⟨y, t, rfl, ⟨a', c', rfl, ha, hc⟩, rfl⟩ := h
    refine ⟨c', ?_, RepL.toT c hc⟩
    have : a' = #[] := by simpa using ha
    subst this
    rfl
  | .hd k, x, _, h => by simp only [cellsT, RepL, Rep] at h; obtain ⟨y, t, rfl, he, rfl⟩ := h; exact he
  | .mh k, x, _, h => by simp only [cellsT, RepL, Rep] at h; obtain ⟨y, t, rfl, he, rfl⟩ := h; exact he
  | .dn, _, _, h => by simp only [cellsT, RepL, Rep] at h; obtain ⟨y, t, rfl, rfl, rfl⟩ := h; rfl
  | .dy t a r, x, _, h => by simp only [cellsT, RepL, Rep] at h; obtain ⟨y, t, rfl, he, rfl⟩ := h; exact he

theorem RepT.length {R : RC} : ∀ (t : Ty) {x : Val t} {cs : List Value}, RepT R t x cs → cs.length = t.size
  | .int k, _, _, h => by simp only [RepT] at h; subst h; rfl
  | .bool, _, _, h => by simp only [RepT] at h; subst h; rfl
  | .str, _, _, h => by simp only [RepT] at h; subst h; rfl
  | .flt, _, _, h => by simp only [RepT] at h; subst h; rfl
  | .err, _, _, h => by obtain ⟨y, rfl, _⟩ := h; rfl
  | .unit, _, _, h => by simp only [RepT] at h; subst h; rfl
  | .nat, _, _, h => by simp only [RepT] at h; subst h; rfl
  | .pair a b, _, _, h => by
    obtain ⟨c, d, rfl, hc, hd⟩ := h
    simp [Ty.size, hc.length, hd.length]
  | .st a, _, _, h => by simp only [RepT] at h; simp only [Ty.size]; exact RepT.length a h
  | .sl a, l, _, h => by obtain ⟨_, _, rfl, _⟩ := h; rfl
  | .ref a, x, _, h => by obtain ⟨b, o, rfl, _⟩ := h; rfl
  | .clo f c, x, _, h => by obtain ⟨cap, rfl, _⟩ := h; rfl
  | .hd k, x, _, h => by
    cases x with
    | none => have h : _ = _ := h; rw [h]; rfl
    | some i => obtain ⟨b, _, rfl⟩ := h; rfl
  | .mh k, x, _, h => by
    cases x with
    | none => have h : _ = _ := h; rw [h]; rfl
    | some i => obtain ⟨b, _, rfl⟩ := h; rfl
  | .dn, _, _, h => by have h : _ = _ := h; rw [h]; rfl
  | .dy t a r, x, _, h => by
    cases x with
    | inl y => obtain ⟨ds, _, rfl⟩ := h; rfl
    | inr y => obtain ⟨_, v, rfl⟩ := h; rfl

theorem cellsT_length : ∀ (t : Ty) (x : Val t), (cellsT t x).length = t.size
  | .int _, _ | .bool, _ | .str, _ | .flt, _ | .err, _ | .unit, _ | .nat, _ | .sl _, _ | .ref _, _ | .clo _ _, _ | .hd _, _ | .mh _, _ | .dn, _ | .dy _ _ _, _ => rfl
  | .pair a b, x => by simp [cellsT, Ty.size, cellsT_length a, cellsT_length b]
  | .st a, x => by simp only [cellsT, Ty.size]; exact cellsT_length a x

theorem sameK_eq {a b : IntKind} (h : sameK a b = true) : a = b := by
  cases a <;> cases b <;> first | rfl | cases h

theorem decE_sound {R : RC} {L : Ref → Option Pl} {x : AV} {e : Er} {y : Value} (h : decE R.T.N x = some e) (hx : Rep R L x y) : RepE R e y := by
  unfold decE at h
  split at h
  · injection h with h; subst h; simpa only [Rep] using hx
  · injection h with h; subst h; simpa only [Rep, RepE] using hx
  · rename_i t p g
    split at h
    · rename_i ht
      injection h with h; subst h; subst ht
      simp only [Rep, RepL, RepE] at hx
      obtain ⟨z, rfl, b, o, rfl, hb, cs, ⟨y1, t1, rfl, rfl, y2, t2, rfl, ⟨hv, rfl⟩, rfl⟩, hat⟩ := hx
      exact ⟨b, o, rfl, hb, hat 0 _ rfl, hv, hat 1 _ rfl⟩
    · cases h
  · cases h

theorem decI_sound {R : RC} {L : Ref → Option Pl} {k : IntKind} {l : List AV} {x : Int} {r : List AV} {ys : List Value} (h : decI k l = some (x, r)) (hl : RepL R L l ys) :
    ∃ d, ys = .int k x :: d ∧ RepL R L r d := by
  unfold decI at h
  split at h
  · split at h
    · rename_i hk
      have := sameK_eq hk
      simp only [Option.some.injEq, Prod.mk.injEq] at h
      obtain ⟨rfl, rfl⟩ := h
      subst this
      simp only [RepL, Rep] at hl
      obtain ⟨y, t, rfl, rfl, ht⟩ := hl
      exact ⟨t, rfl, ht⟩
    · cases h
  · cases h

theorem decB_sound {R : RC} {L : Ref → Option Pl} {l : List AV} {x : Bool} {r : List AV} {ys : List Value} (h : decB l = some (x, r)) (hl : RepL R L l ys) :
    ∃ d, ys = .bool x :: d ∧ RepL R L r d := by
  unfold decB at h
  split at h
  · simp only [Option.some.injEq, Prod.mk.injEq] at h
    obtain ⟨rfl, rfl⟩ := h
    simp only [RepL, Rep] at hl
    obtain ⟨y, t, rfl, rfl, ht⟩ := hl
    exact ⟨t, rfl, ht⟩
  · cases h

theorem decS_sound {R : RC} {L : Ref → Option Pl} {l : List AV} {x : ByteArray} {r : List AV} {ys : List Value} (h : decS l = some (x, r)) (hl : RepL R L l ys) :
    ∃ d, ys = .string x :: d ∧ RepL R L r d := by
  unfold decS at h
  split at h
  · simp only [Option.some.injEq, Prod.mk.injEq] at h
    obtain ⟨rfl, rfl⟩ := h
    simp only [RepL, Rep] at hl
    obtain ⟨y, t, rfl, rfl, ht⟩ := hl
    exact ⟨t, rfl, ht⟩
  · cases h

theorem decF_sound {R : RC} {L : Ref → Option Pl} {l : List AV} {x : Nat} {r : List AV} {ys : List Value} (h : decF l = some (x, r)) (hl : RepL R L l ys) :
    ∃ d, ys = .float .f64 x :: d ∧ RepL R L r d := by
  unfold decF at h
  split at h
  · simp only [Option.some.injEq, Prod.mk.injEq] at h
    obtain ⟨rfl, rfl⟩ := h
    simp only [RepL, Rep] at hl
    obtain ⟨y, t, rfl, rfl, ht⟩ := hl
    exact ⟨t, rfl, ht⟩
  · cases h

theorem decEr_sound {R : RC} {L : Ref → Option Pl} {l : List AV} {x : Er} {r : List AV} {ys : List Value} (h : decEr R.T.N l = some (x, r)) (hl : RepL R L l ys) :
    ∃ y d, ys = y :: d ∧ RepE R x y ∧ RepL R L r d := by
  unfold decEr at h
  split at h
  · split at h
    · rename_i hk
      simp only [Option.some.injEq, Prod.mk.injEq] at h
      obtain ⟨rfl, rfl⟩ := h
      simp only [RepL] at hl
      obtain ⟨y, t, rfl, hy, ht⟩ := hl
      exact ⟨y, t, rfl, decE_sound hk hy, ht⟩
    · cases h
  · cases h

theorem decSl_sound {R : RC} {L : Ref → Option Pl} {a : Ty} {l : List AV} {x : List (Val a)} {r : List AV} {ys : List Value} (h : decSl a l = some (x, r)) (hl : RepL R L l ys) :
    ∃ y d, ys = y :: d ∧ RepT R (.sl a) x [y] ∧ RepL R L r d := by
  unfold decSl at h
  split at h
  · split at h
    · rename_i hk
      subst hk
      simp only [Option.some.injEq, Prod.mk.injEq] at h
      obtain ⟨rfl, rfl⟩ := h
      simp only [RepL, Rep] at hl
      obtain ⟨y, t, rfl, hy, ht⟩ := hl
      exact ⟨y, t, rfl, hy, ht⟩
    · cases h
  · simp only [Option.some.injEq, Prod.mk.injEq] at h
    obtain ⟨rfl, rfl⟩ := h
    simp only [RepL, Rep] at hl
    obtain ⟨y, t, rfl, rfl, ht⟩ := hl
    exact ⟨_, t, rfl, ⟨none, 0, rfl, Nat.le_refl _, fun hn => absurd rfl hn, fun _ => rfl⟩, ht⟩
  · cases h

theorem decT_sound {R : RC} {L : Ref → Option Pl} : ∀ (t : Ty) {l : List AV} {x : Val t} {r : List AV} {ys : List Value}, decT R.T.N t l = some (x, r) → RepL R L l ys →
    ∃ c d, ys = c ++ d ∧ RepT R t x c ∧ RepL R L r d
  | .int k, l, x, r, ys, h, hl => by
    obtain ⟨d, rfl, hd⟩ := decI_sound (by simpa only [decT] using h) hl
    exact ⟨[_], d, rfl, rfl, hd⟩
  | .bool, l, x, r, ys, h, hl => by
    obtain ⟨d, rfl, hd⟩ := decB_sound (by simpa only [decT] using h) hl
    exact ⟨[_], d, rfl, rfl, hd⟩
  | .str, l, x, r, ys, h, hl => by
    obtain ⟨d, rfl, hd⟩ := decS_sound (by simpa only [decT] using h) hl
    exact ⟨[_], d, rfl, rfl, hd⟩
  | .flt, l, x, r, ys, h, hl => by
    obtain ⟨d, rfl, hd⟩ := decF_sound (by simpa only [decT] using h) hl
    exact ⟨[_], d, rfl, rfl, hd⟩
  | .err, l, x, r, ys, h, hl => by
    obtain ⟨y, d, rfl, hy, hd⟩ := decEr_sound (by simpa only [decT] using h) hl
    exact ⟨[y], d, rfl, ⟨y, rfl, hy⟩, hd⟩
  | .unit, l, x, r, ys, h, hl => by
    simp only [decT, Option.some.injEq, Prod.mk.injEq] at h
    obtain ⟨_, rfl⟩ := h
    exact ⟨[], ys, rfl, rfl, hl⟩
  | .nat, l, x, r, ys, h, hl => by simp only [decT] at h; cases h
  | .pair a b, l, x, r, ys, h, hl => by
    simp only [decT] at h
    split at h
    · rename_i x1 r1 h1
      split at h
      · rename_i y1 r2 h2
        simp only [Option.some.injEq, Prod.mk.injEq] at h
        obtain ⟨rfl, rfl⟩ := h
        obtain ⟨c, d, rfl, hc, hd⟩ := decT_sound a h1 hl
        obtain ⟨c', d', rfl, hc', hd'⟩ := decT_sound b h2 hd
        exact ⟨c ++ c', d', by simp, ⟨c, c', rfl, hc, hc'⟩, hd'⟩
      · cases h
    · cases h
  | .st a, l, x, r, ys, h, hl => by
    simp only [decT] at h
    exact decT_sound a h hl
  | .sl a, l, x, r, ys, h, hl => by
    obtain ⟨y, d, rfl, hy, hd⟩ := decSl_sound (by simpa only [decT] using h) hl
    exact ⟨[y], d, rfl, hy, hd⟩
  | .ref a, l, x, r, ys, h, hl => by
    simp only [decT] at h
    split at h
    · rename_i row r1 h1
      split at h
      · rename_i x1 h2
        simp only [Option.some.injEq, Prod.mk.injEq] at h
        obtain ⟨rfl, rfl⟩ := h
        unfold decRef at h1
        split at h1
        · simp only [Option.some.injEq, Prod.mk.injEq] at h1
          obtain ⟨rfl, rfl⟩ := h1
          simp only [RepL, Rep] at hl
          obtain ⟨y, t, rfl, ⟨b, o, rfl, hb, cs, hr, ha⟩, ht⟩ := hl
          obtain ⟨c, d, rfl, hc, hd⟩ := decT_sound a h2 hr
          simp only [RepL] at hd
          subst hd
          exact ⟨[_], t, rfl, ⟨b, o, rfl, hb, c, hc, by simpa using ha⟩, ht⟩
        · cases h1
      · cases h
    · cases h
  | .clo f cp, l, x, r, ys, h, hl => by
    simp only [decT] at h
    split at h
    · rename_i row r1 h1
      split at h
      · rename_i x1 h2
        simp only [Option.some.injEq, Prod.mk.injEq] at h
        obtain ⟨rfl, rfl⟩ := h
        unfold decClo at h1
        split at h1
        · split at h1
          · rename_i hg
            subst hg
            simp only [Option.some.injEq, Prod.mk.injEq] at h1
            obtain ⟨rfl, rfl⟩ := h1
            simp only [RepL, Rep] at hl
            obtain ⟨y, t, rfl, ⟨a', c', rfl, ha, hc'⟩, ht⟩ := hl
            obtain ⟨c, d, e, hc, hd⟩ := decT_sound cp h2 hc'
            simp only [RepL] at hd
            subst hd
            have : a' = #[] := by simpa using ha
            subst this
            exact ⟨[_], t, rfl, ⟨c', rfl, by rw [e]; simpa using hc⟩, ht⟩
          · cases h1
        · cases h1
      · cases h
    · cases h
  | .hd k, l, x, r, ys, h, hl => by
    simp only [decT] at h
    unfold decHd at h
    split at h
    · split at h
      · rename_i hk
        have hk := of_decide_eq_true hk
        subst hk
        simp only [Option.some.injEq, Prod.mk.injEq] at h
        obtain ⟨rfl, rfl⟩ := h
        simp only [RepL, Rep] at hl
        obtain ⟨y, t, rfl, he, ht⟩ := hl
        exact ⟨[_], t, rfl, he, ht⟩
      · cases h
    · simp only [Option.some.injEq, Prod.mk.injEq] at h
      obtain ⟨rfl, rfl⟩ := h
      simp only [RepL, Rep] at hl
      obtain ⟨y, t, rfl, rfl, ht⟩ := hl
      exact ⟨[_], t, rfl, rfl, ht⟩
    · cases h
  | .mh k, l, x, r, ys, h, hl => by
    simp only [decT] at h
    unfold decMh at h
    split at h
    · split at h
      · rename_i hk
        have hk := of_decide_eq_true hk
        subst hk
        simp only [Option.some.injEq, Prod.mk.injEq] at h
        obtain ⟨rfl, rfl⟩ := h
        simp only [RepL, Rep] at hl
        obtain ⟨y, t, rfl, he, ht⟩ := hl
        exact ⟨[_], t, rfl, he, ht⟩
      · cases h
    · simp only [Option.some.injEq, Prod.mk.injEq] at h
      obtain ⟨rfl, rfl⟩ := h
      simp only [RepL, Rep] at hl
      obtain ⟨y, t, rfl, rfl, ht⟩ := hl
      exact ⟨[_], t, rfl, rfl, ht⟩
    · cases h
  | .dn, l, x, r, ys, h, hl => by
    simp only [decT] at h
    split at h
    · simp only [Option.some.injEq, Prod.mk.injEq] at h
      obtain ⟨_, rfl⟩ := h
      simp only [RepL, Rep] at hl
      obtain ⟨y, t, rfl, rfl, ht⟩ := hl
      exact ⟨[_], t, rfl, rfl, ht⟩
    · cases h
  | .dy u a q, l, x, r, ys, h, hl => by
    simp only [decT] at h
    split at h
    · split at h
      · rename_i t' y r' hh
        subst hh
        simp only [Option.some.injEq, Prod.mk.injEq] at h
        obtain ⟨rfl, rfl⟩ := h
        simp only [RepL, Rep] at hl
        obtain ⟨v, t, rfl, hv, ht⟩ := hl
        exact ⟨[v], t, rfl, hv, ht⟩
      · cases h
    · rename_i v z r'
      have hl' := hl
      simp only [RepL, Rep] at hl
      obtain ⟨w, t, rfl, ⟨z', rfl, hz⟩, ht⟩ := hl
      split at h
      · rename_i hb
        have hvu := Nat.eq_of_beq_eq_true hb
        subst hvu
        split at h
        · rename_i ha
          split at h
          · rename_i y hd
            simp only [Option.some.injEq, Prod.mk.injEq] at h
            obtain ⟨rfl, rfl⟩ := h
            simp only [Rep] at hz
            obtain ⟨cs, rfl, hcs⟩ := hz
            obtain ⟨c, d, e, hc, hd2⟩ := decT_sound a hd hcs
            simp only [RepL] at hd2
            subst hd2
            rw [List.append_nil] at e
            refine ⟨[_], t, rfl, ⟨c, hc, ?_⟩, ht⟩
            rw [ha]
            simp [← e]
          · cases h
        · rename_i ha
          split at h
          · rename_i y hone hd
            simp only [Option.some.injEq, Prod.mk.injEq] at h
            obtain ⟨rfl, rfl⟩ := h
            obtain ⟨c, d, e, hc, hd2⟩ := decT_sound a hd (show RepL R L [_] [z'] by simp only [RepL]; exact ⟨z', [], rfl, hz, rfl⟩)
            simp only [RepL] at hd2
            subst hd2
            rw [List.append_nil] at e
            refine ⟨[_], t, rfl, ⟨c, hc, ?_⟩, ht⟩
            rw [ha, ← e]
            rfl
          · cases h
        · cases h
      · split at h
        · rename_i y r2 hq hd
          simp only [Option.some.injEq, Prod.mk.injEq] at h
          obtain ⟨rfl, rfl⟩ := h
          obtain ⟨c, d, e, hc, hd2⟩ := decT_sound q hd hl'
          exact ⟨c, d, e, ⟨hc, List.length_eq_one_iff.1 ((RepT.length q hc).trans (Nat.eq_of_beq_eq_true hq))⟩, hd2⟩
        · cases h
    · rename_i r'
      have hl' := hl
      split at h
      · rename_i y r2 hq hd
        simp only [Option.some.injEq, Prod.mk.injEq] at h
        obtain ⟨rfl, rfl⟩ := h
        obtain ⟨c, d, e, hc, hd2⟩ := decT_sound q hd hl'
        exact ⟨c, d, e, ⟨hc, List.length_eq_one_iff.1 ((RepT.length q hc).trans (Nat.eq_of_beq_eq_true hq))⟩, hd2⟩
      · cases h
    · cases h

end Go.Eng

/-
  The abstract machine, part 4: when an abstract state stands for a machine's; how a world may go on.
-/
namespace Go.Eng

/-- what is so from the beginning: where the error lies that a variable holds; which blocks stay as they are -/
structure Ini where
  a : Nat → Addr
  G : Nat → Prop

structure Ctx where
  P : Program
  E : Env
  S : Ini
  w0 : World
  I0 : Nat → Prop
  Rt : Nat → Prop      -- the blocks of before that may be changed
  B : Nat → Nat → Option Pl   -- where the objects of before lie
  D : List Deferred           -- what is put off

/-- the program's errors, by the table of its listed variables -/
def statOf (E : Env) (S : Ini) : Stat := ⟨S.a, E.toNames, fun g => E.glob g = some [.er (.s g)]⟩
def rcW (T : Stat) (I : Nat → Prop) (L : Ref → Option Pl) (w : World) : RC := ⟨fun b o => w.cell? ⟨b, o, none⟩, I, T, hOf L⟩
def Ctx.rc (c : Ctx) (I : Nat → Prop) (L : Ref → Option Pl) (w : World) : RC := rcW (statOf c.E c.S) I L w

abbrev noL : Ref → Option Pl := fun _ => none

/-- data as one value -/
def KeyR (R : RC) (t : Ty) (x : Val t) (v : Value) : Prop := ∃ cs, RepT R t x cs ∧ v = match t.isAgg with
  | true => .agg cs.toArray
  | false => cs.getD 0 undef

/-- a map's entries, as they lie -/
def MapR (R : RC) (a b : Ty) : List (Val a × (Val b × Nat)) → List MapEntry → Prop
  | [], es => es = []
  | x :: r, es => ∃ e t, es = e :: t ∧ (KeyR R a x.1 e.key ∧ KeyR R b x.2.1 e.val ∧ e.born = x.2.2) ∧ MapR R a b r t

def BlkOK (R : RC) (L : Ref → Option Pl) (w : World) (p : Pl) (b : Blk) : Prop :=
  p.gen = b.gen ∧ match b.ct with
  | .box row => p.virt = false ∧ p.o = 0 ∧ ∃ cs T, w.heap[p.b]? = some (.cells cs T (0, 0)) ∧ RepL R L row cs.toList
  | .sl t l => (p.virt = true ∧ l = [] ∧ p.w = t.size) ∨ (p.virt = false ∧ p.w = t.size ∧ ∃ cs T, w.heap[p.b]? = some (.cells cs T (0, 0)) ∧ cs.size = p.size ∧ p.o + l.length * p.w ≤ p.size ∧
      ∀ i, i < l.length → ∃ d, RepT R t (l.getD i (dfl t)) d ∧ At R d p.b (p.o + i * p.w))
  | .tab _ _ _ _ => p.virt = true
  | .mp a b l clk => p.virt = false ∧ p.o = 0 ∧ ∃ es, w.heap[p.b]? = some (.map es clk) ∧ MapR R a b l es.toList

/-- is it a block of objects? -/
def Blk.isTab (b : Blk) : Bool := match b.ct with
  | .tab _ _ _ _ => true
  | _ => false

/-- an object's block, where there is one: that of its variable; of a slice of its own -/
def viewV (k i : Nat) (cs : List Cell) (x : Val (rowsTy cs)) (st : List (Nat × Nat)) (gs : List Nat) : Nat → Option Blk
  | 0 => some { ct := objCt k i (fun q => decide ((q, i) ∈ st)) gs cs x, gen := 0, frozen := false }
  | q + 1 => match slO (q + 1) cs 1 x with
    | some ⟨t, y⟩ => some (if (q + 1, i) ∈ st then { ct := .sl t [], gen := gs.getD (q + 1) 0 + 1, frozen := false } else { ct := .sl t y, gen := gs.getD (q + 1) 0, frozen := false })
    | none => none

/-- the blocks that there are -/
def rdv (h : List (Option Blk)) : Ref → Option Blk
  | .l id => match h[id]? with
    | some b => b
    | none => none
  | .o k i q => match h[k]? with
    | some (some b) => match b.ct with
      | .tab cs l st gs => if i < l.length then viewV k i cs (l.getD i (dfl (rowsTy cs))) st gs q else none
      | _ => none
    | _ => none

/-- nothing is said to the world outside -/
def IO (w w' : World) : Prop := w'.os = w.os ∧ w'.tape = w.tape ∧ w'.output = w.output

theorem IO.refl (w : World) : IO w w := ⟨rfl, rfl, rfl⟩
theorem IO.trans {a b c : World} (h : IO a b) (k : IO b c) : IO a c := ⟨k.1.trans h.1, k.2.1.trans h.2.1, k.2.2.trans h.2.2⟩

structure Sim (c : Ctx) (I : Nat → Prop) (L : Ref → Option Pl) (s : St) (a : Act) (w : World) : Prop where
  env : RepL (c.rc I L w) L s.env a.tmps.toList
  defers : a.defers = c.D
  blk : ∀ r b, rdv s.heap r = some b → ∃ p, L r = some p ∧ BlkOK (c.rc I L w) L w p b ∧ (b.frozen = false → p.virt = false → ¬ I p.b)
  dom : ∀ r p, L r = some p → ∃ b, rdv s.heap r = some b
  own : ∀ r p, L r = some p → p.virt = false → (c.w0.heap.size ≤ p.b ∨ c.Rt p.b) ∧ p.b < w.heap.size
  inj : ∀ r r' p p', L r = some p → L r' = some p' → p.virt = false → p'.virt = false → p.b = p'.b → r = r'
  imm : ∀ b, I b → b < w.heap.size
  i0 : ∀ b, c.I0 b → I b
  iN : ∀ b, I b → c.I0 b ∨ c.w0.heap.size ≤ b ∨ c.Rt b
  same : ∀ b, b < c.w0.heap.size → ¬ c.Rt b → w.heap[b]? = c.w0.heap[b]?
  fix : ∀ b, c.S.G b → b < c.w0.heap.size ∧ ¬ c.Rt b
  bx : ∀ k i p, c.B k i = some p → L (.o k i 0) = some p
  grow : c.w0.heap.size ≤ w.heap.size
  io : IO c.w0 w

theorem rdH_l (h : List (Option Blk)) (id : Nat) : rdH h (.l id) = rdv h (.l id) := rfl

theorem rdv_l {h : List (Option Blk)} {id : Nat} {b : Blk} : rdv h (.l id) = some b ↔ h[id]? = some (some b) := by
  simp only [rdv]
  split
  · rename_i x hx
    rw [hx]
    simp
  · rename_i hx
    rw [hx]
    simp

theorem stale_mem {st : List (Nat × Nat)} {q i : Nat} (h : (q, i) ∈ st) : stale st q = true := by
  unfold stale
  rw [List.any_eq_true]
  exact ⟨(q, i), h, Nat.beq_refl q⟩

theorem rowO_weak {R : RC} {L : Ref → Option Pl} {k i : Nat} {st st' : Nat → Bool} {gs : List Nat} (hs : ∀ q, st q = true → st' q = true) : ∀ {cs : List Cell} {q : Nat} {x : Val (rowsTy cs)} {ys : List Value},
    RepL R L (rowO k i st gs cs q x) ys → RepL R L (rowO k i st' gs cs q x) ys
  | [], _, _, _, h => h
  | .d t :: r, q, x, ys, h => by
    simp only [rowO] at h ⊢
    obtain ⟨c, d, rfl, hc, hd⟩ := h.split
    exact hc.append (rowO_weak hs hd)
  | .sl t :: r, q, x, ys, h => by
    simp only [rowO, RepL] at h ⊢
    obtain ⟨y, tl, rfl, hy, ht⟩ := h
    refine ⟨y, tl, rfl, ?_, rowO_weak hs ht⟩
    cases h1 : st' q with
    | true => simp [Rep]
    | false =>
      have h2 : st q = false := by
        cases h2 : st q with
        | true => rw [hs q h2] at h1; cases h1
        | false => rfl
      rw [h2] at hy
      exact hy

/-- what is read is as it is, or says less -/
theorem rdH_rdv {R : RC} {L : Ref → Option Pl} {w : World} {p : Pl} {h : List (Option Blk)} {r : Ref} {b b' : Blk} (e : rdH h r = some b) (e' : rdv h r = some b') (hk : BlkOK R L w p b') :
    BlkOK R L w p b ∧ b.frozen = b'.frozen := by
  cases r with
  | l id =>
    rw [rdH_l, e'] at e
    injection e with e
    subst e
    exact ⟨hk, rfl⟩
  | o k i q =>
    simp only [rdH] at e
    simp only [rdv] at e'
    split at e
    · rename_i tb htb
      rw [htb] at e'
      simp only at e'
      split at e
      · rename_i cs l st gs hct
        rw [hct] at e'
        simp only at e'
        split at e'
        · cases q with
          | zero =>
            simp only [viewO, Option.some.injEq] at e
            simp only [viewV, Option.some.injEq] at e'
            subst e; subst e'
            obtain ⟨h1, hk⟩ := hk
            refine ⟨⟨h1, ?_⟩, rfl⟩
            simp only [objCt] at hk ⊢
            cases hm : mapL cs (l.getD i (dfl (rowsTy cs))) with
            | some c =>
              rw [hm] at hk
              simp only at hk ⊢
              exact hk
            | none =>
              rw [hm] at hk
              simp only at hk ⊢
              obtain ⟨h2, h3, cc, T, h4, h5⟩ := hk
              exact ⟨h2, h3, cc, T, h4, rowO_weak (fun q hq => stale_mem (of_decide_eq_true hq)) h5⟩
          | succ q =>
            simp only [viewO] at e
            simp only [viewV] at e'
            split at e
            · cases e
            · rename_i hns
              split at e
              · rename_i t y hs
                rw [hs] at e'
                simp only [Option.some.injEq] at e e'
                have hn : ¬ ((q + 1, i) ∈ st) := fun hm => by rw [stale_mem hm] at hns; cases hns
                rw [if_neg hn] at e'
                subst e; subst e'
                exact ⟨hk, rfl⟩
              · cases e
        · cases e'
      · cases e
    · cases e

section
variable {c : Ctx} {I : Nat → Prop} {L : Ref → Option Pl} {s : St} {a : Act} {w : World}

theorem cell?_heap {w w' : World} (b o : Nat) (h : w'.heap[b]? = w.heap[b]?) : w'.cell? ⟨b, o, none⟩ = w.cell? ⟨b, o, none⟩ := by
  simp only [World.cell?, h]

theorem cell?_cells {w : World} {b o : Nat} {cs : Array Value} {T : TypeId} {fz : Nat × Nat} (h : w.heap[b]? = some (.cells cs T fz)) : w.cell? ⟨b, o, none⟩ = cs[o]? := by
  simp [World.cell?, h]

/-- a world that is the same but for the blocks that somebody may change -/
theorem rle_of_heap {T : Stat} {I I' : Nat → Prop} {L L' : Ref → Option Pl} {w w' : World} (hi : ∀ b, I b → I' b) (h : ∀ b, I b → w'.heap[b]? = w.heap[b]?) (hl : LLe L L') :
    RLe (rcW T I L w) (rcW T I' L' w') :=
  ⟨hi, fun b o hb => cell?_heap b o (h b hb), rfl, fun _ _ _ hb => hl.hOf hb⟩

theorem Sim.size (h : Sim c I L s a w) : a.tmps.size = s.env.length := by
  have := h.env.length
  simpa using this

theorem getD_toList (xs : Array Value) (k : Nat) : xs.getD k undef = xs.toList.getD k undef := by
  simp [Array.getD_eq_getD_getElem?, List.getD_eq_getElem?_getD]

theorem Sim.tmp (h : Sim c I L s a w) (k : Nat) : Rep (c.rc I L w) L (s.env.getD k .top) (a.tmps.getD k undef) := by
  rw [getD_toList, List.getD_eq_getElem?_getD, List.getD_eq_getElem?_getD]
  cases hk : s.env[k]? with
  | none => simp [Rep]
  | some x =>
    obtain ⟨y, hy, hr⟩ := h.env.get k x hk
    simpa [hy] using hr

theorem rep_const (R : RC) (L : Ref → Option Pl) (v : Value) : Rep R L (ofConst v) v := by
  unfold ofConst
  split
  · rename_i cs
    simp only [Rep]
    refine ⟨cs, rfl, RepL.mk (by simp) ?_⟩
    intro i x y hx hy
    simp only [List.getElem?_map, Option.map_eq_some_iff] at hx
    obtain ⟨z, hz, rfl⟩ := hx
    rw [hz] at hy
    injection hy with hy
    simp [Rep, hy]
  · simp [Rep]

theorem Sim.eval (h : Sim c I L s a w) (x : Operand) : Rep (c.rc I L w) L (aeval s.env x) (a.eval x) := by
  cases x with
  | tmp t => exact h.tmp t
  | const v => exact rep_const _ _ v
  | global g => simp [aeval, Act.eval, Rep]
  | func f => simp only [aeval, Act.eval, Rep]; exact ⟨#[], #[], rfl, by simp [RepL], by simp [RepL]⟩

theorem Sim.evalL (h : Sim c I L s a w) : ∀ (xs : List Operand), RepL (c.rc I L w) L (xs.map (aeval s.env)) (xs.map a.eval)
  | [] => by simp [RepL]
  | x :: r => by simp only [List.map_cons, RepL]; exact ⟨_, _, rfl, h.eval x, h.evalL r⟩

theorem RepL.set {R : RC} {L : Ref → Option Pl} : ∀ {l : List AV} {ys : List Value} (_ : RepL R L l ys) (k : Nat) {x : AV} {y : Value}, Rep R L x y → RepL R L (l.set k x) (ys.set k y)
  | [], _, h, _, _, _, _ => by simp only [RepL] at h; subst h; simp [RepL]
  | a :: r, _, h, k, x, y, hx => by
    simp only [RepL] at h
    obtain ⟨z, t, rfl, hz, ht⟩ := h
    cases k with
    | zero => simp only [List.set_cons_zero, RepL]; exact ⟨y, t, rfl, hx, ht⟩
    | succ k => simp only [List.set_cons_succ, RepL]; exact ⟨z, _, rfl, hz, ht.set k hx⟩

theorem Sim.put (h : Sim c I L s a w) (d : Option Tmp) {x : AV} {v : Value} (hx : Rep (c.rc I L w) L x v) : Sim c I L ⟨putD s.env d x, s.heap⟩ (a.put d v) w := by
  cases d with
  | none => exact ⟨h.env, h.defers, h.blk, h.dom, h.own, h.inj, h.imm, h.i0, h.iN, h.same, h.fix, h.bx, h.grow, h.io⟩
  | some k =>
    refine ⟨?_, h.defers, h.blk, h.dom, h.own, h.inj, h.imm, h.i0, h.iN, h.same, h.fix, h.bx, h.grow, h.io⟩
    simp only [putD, Act.put, Array.toList_setIfInBounds]
    exact h.env.set k hx

theorem KeyR.mono {R R' : RC} (hr : RLe R R') {t : Ty} {x : Val t} {v : Value} (h : KeyR R t x v) : KeyR R' t x v := by
  obtain ⟨c, r, e⟩ := h
  exact ⟨c, r.mono hr, e⟩
theorem MapR.mono {R R' : RC} (hr : RLe R R') {a b : Ty} : ∀ {l : List (Val a × (Val b × Nat))} {es : List MapEntry}, MapR R a b l es → MapR R' a b l es
  | [], _, h => h
  | _ :: _, _, ⟨e, t, h1, ⟨h2, h3, h3'⟩, h4⟩ => ⟨e, t, h1, ⟨h2.mono hr, h3.mono hr, h3'⟩, MapR.mono hr h4⟩

theorem BlkOK.mono {R R' : RC} {L L' : Ref → Option Pl} {w w' : World} {p : Pl} {b : Blk} (hr : RLe R R') (hl : LLe L L') (hw : p.virt = false → w'.heap[p.b]? = w.heap[p.b]?)
    (hc : p.virt = false → ∀ o, R'.C p.b o = R.C p.b o) (h : BlkOK R L w p b) : BlkOK R' L' w' p b := by
  obtain ⟨hg, h⟩ := h
  refine ⟨hg, ?_⟩
  cases hct : b.ct with
  | box row =>
    rw [hct] at h
    obtain ⟨hv, ho, cs, T, hh, hrow⟩ := h
    exact ⟨hv, ho, cs, T, (hw hv).trans hh, RepL.mono hr hl hrow⟩
  | tab cs l st gs => rw [hct] at h; exact h
  | mp a b l clk =>
    rw [hct] at h
    obtain ⟨hv, ho, es, hh, hm⟩ := h
    exact ⟨hv, ho, es, (hw hv).trans hh, hm.mono hr⟩
  | sl t l =>
    rw [hct] at h
    rcases h with h | ⟨hv, hpw, cs, T, hh, hs, hle, hi⟩
    · exact .inl h
    · refine .inr ⟨hv, hpw, cs, T, (hw hv).trans hh, hs, hle, fun i hlt => ?_⟩
      obtain ⟨d, hd, hat⟩ := hi i hlt
      exact ⟨d, hd.mono hr, fun j v hj => by rw [hc hv]; exact hat j v hj⟩

/-- A world that goes on: nothing that the state knows of has changed. More may be held for good. -/
theorem Sim.world (h : Sim c I L s a w) {I' : Nat → Prop} {w' : World} (hi : ∀ b, I b → I' b) (hs : w.heap.size ≤ w'.heap.size) (hw : ∀ b, b < w.heap.size → w'.heap[b]? = w.heap[b]?)
    (hn : ∀ b, I' b → b < w'.heap.size) (hm : ∀ b, I' b → I b ∨ w.heap.size ≤ b) (hio : IO w w') : Sim c I' L s a w' := by
  have hr : RLe (c.rc I L w) (c.rc I' L w') := rle_of_heap hi (fun b hb => hw b (h.imm b hb)) (LLe.refl L)
  refine ⟨h.env.mono hr (LLe.refl L), h.defers, ?_, h.dom, ?_, h.inj, hn, fun b hb => hi b (h.i0 b hb), ?_, ?_, h.fix, h.bx, Nat.le_trans h.grow hs, h.io.trans hio⟩
  · intro id b hb
    obtain ⟨p, hp, hk, hf⟩ := h.blk id b hb
    refine ⟨p, hp, hk.mono hr (LLe.refl L) (fun hv => hw _ (h.own id p hp hv).2) (fun hv o => cell?_heap _ _ (hw _ (h.own id p hp hv).2)), fun hz hv hI => ?_⟩
    rcases hm _ hI with hI | hI
    · exact hf hz hv hI
    · have := (h.own id p hp hv).2
      omega
  · intro id p hp hv
    have := h.own id p hp hv
    exact ⟨this.1, Nat.lt_of_lt_of_le this.2 hs⟩
  · intro b hb
    rcases hm b hb with hb | hb
    · exact h.iN b hb
    · exact .inr (.inl (Nat.le_trans h.grow hb))
  · intro b hb hn
    rw [hw b (Nat.lt_of_lt_of_le hb h.grow)]
    exact h.same b hb hn

theorem Sim.draw (h : Sim c I L s a w) {w' : World} (e : w'.heap = w.heap) (hio : IO w w') : Sim c I L s a w' :=
  h.world (fun _ hb => hb) (by rw [e]; exact Nat.le_refl _) (fun b _ => by rw [e]) (fun b hb => by rw [e]; exact h.imm b hb) (fun b hb => .inl hb) hio

/-- a place more -/
def addL (L : Ref → Option Pl) (id : Ref) (p : Pl) : Ref → Option Pl := fun i => if i = id then some p else L i

theorem addL_le {L : Ref → Option Pl} {id : Ref} {p : Pl} (h : ∀ q, L id = some q → p.w = q.w ∧ q.gen < p.gen) (hb : ¬ id.isBox) : LLe L (addL L id p) := by
  intro i q hq
  by_cases e : i = id
  · subst e
    exact ⟨p, by simp [addL], (h q hq).1, .inr ⟨(h q hq).2, hb⟩⟩
  · exact ⟨q, by simp [addL, e, hq], rfl, .inl rfl⟩

/-- Places and blocks turned, all at once. -/
theorem Sim.turn (h : Sim c I L s a w) {L' : Ref → Option Pl} {hp' : List (Option Blk)} {w' : World} (hl : LLe L L') (hs : w.heap.size ≤ w'.heap.size) (hio : IO w w')
    (hw : ∀ b, b < w.heap.size → (I b ∨ ∀ r q, L r = some q → q.virt = false → q.b ≠ b) → w'.heap[b]? = w.heap[b]?)
    (hblk : RLe (c.rc I L w) (c.rc I L' w') → ∀ r b, rdv hp' r = some b → ∃ p, L' r = some p ∧ BlkOK (c.rc I L' w') L' w' p b ∧ (b.frozen = false → p.virt = false → ¬ I p.b))
    (hdom : ∀ r p, L' r = some p → ∃ b, rdv hp' r = some b)
    (hown : ∀ r p, L' r = some p → p.virt = false → p.b < w'.heap.size ∧ (w.heap.size ≤ p.b ∨ ∃ r' q, L r' = some q ∧ q.virt = false ∧ q.b = p.b))
    (hinj : ∀ r r' p p', L' r = some p → L' r' = some p' → p.virt = false → p'.virt = false → p.b = p'.b → r = r') : Sim c I L' ⟨s.env, hp'⟩ a w' := by
  have hold : ∀ b, I b → w'.heap[b]? = w.heap[b]? := fun b hb => hw b (h.imm b hb) (.inl hb)
  have hr : RLe (c.rc I L w) (c.rc I L' w') := rle_of_heap (fun _ hb => hb) hold hl
  refine ⟨h.env.mono hr hl, h.defers, hblk hr, hdom, ?_, hinj, fun b hb => Nat.lt_of_lt_of_le (h.imm b hb) hs, h.i0, h.iN, ?_, h.fix, fun k i p hp => hl.box (h.bx k i p hp), Nat.le_trans h.grow hs, h.io.trans hio⟩
  · intro r p hp hv
    obtain ⟨h1, h2⟩ := hown r p hp hv
    refine ⟨?_, h1⟩
    rcases h2 with h2 | ⟨r', q, hq, hqv, hqb⟩
    · exact .inl (Nat.le_trans h.grow h2)
    · rw [← hqb]; exact (h.own r' q hq hqv).1
  · intro b hb hn
    have hlt := Nat.lt_of_lt_of_le hb h.grow
    rw [hw b hlt (.inr fun r q hq hqv hbq => by
      rcases (h.own r q hq hqv).1 with h1 | h1
      · omega
      · rw [hbq] at h1; exact hn h1)]
    exact h.same b hb hn

theorem rdv_set {h : List (Option Blk)} {id : Nat} {x : Option Blk} (ho : ∀ b, h[id]? = some (some b) → b.isTab = false) (hn : ∀ b, x = some b → b.isTab = false) {r : Ref} (hr : r ≠ .l id) : rdv (h.set id x) r = rdv h r := by
  cases r with
  | l id' =>
    have : id ≠ id' := fun e => hr (by rw [e])
    simp only [rdv, List.getElem?_set_ne this]
  | o k i q =>
    by_cases e : id = k
    · subst e
      have none1 : rdv h (.o id i q) = none := by
        simp only [rdv]
        split
        · rename_i b hb
          have := ho b hb
          unfold Blk.isTab at this
          split
          · rename_i hct; rw [hct] at this; cases this
          · rfl
        · rfl
      rw [none1]
      simp only [rdv]
      split
      · rename_i b hb
        by_cases hl : id < h.length
        · rw [List.getElem?_set_self hl] at hb
          injection hb with hb
          have := hn b hb
          unfold Blk.isTab at this
          split
          · rename_i hct; rw [hct] at this; cases this
          · rfl
        · rw [List.set_eq_of_length_le (by omega)] at hb
          have := ho b hb
          unfold Blk.isTab at this
          split
          · rename_i hct; rw [hct] at this; cases this
          · rfl
      · rfl
    · simp only [rdv, List.getElem?_set_ne e]

theorem rdH_set {h : List (Option Blk)} {id : Nat} {x : Option Blk} (ho : ∀ b, h[id]? = some (some b) → b.isTab = false) (hn : ∀ b, x = some b → b.isTab = false) {r : Ref} (hr : r ≠ .l id) : rdH (h.set id x) r = rdH h r := by
  cases r with
  | l id' =>
    have : id ≠ id' := fun e => hr (by rw [e])
    simp only [rdH, List.getElem?_set_ne this]
  | o k i q =>
    by_cases e : id = k
    · subst e
      have none1 : rdH h (.o id i q) = none := by
        simp only [rdH]
        split
        · rename_i b hb
          have := ho b hb
          unfold Blk.isTab at this
          split
          · rename_i hct; rw [hct] at this; cases this
          · rfl
        · rfl
      rw [none1]
      simp only [rdH]
      split
      · rename_i b hb
        by_cases hl : id < h.length
        · rw [List.getElem?_set_self hl] at hb
          injection hb with hb
          have := hn b hb
          unfold Blk.isTab at this
          split
          · rename_i hct; rw [hct] at this; cases this
          · rfl
        · rw [List.set_eq_of_length_le (by omega)] at hb
          have := ho b hb
          unfold Blk.isTab at this
          split
          · rename_i hct; rw [hct] at this; cases this
          · rfl
      · rfl
    · simp only [rdH, List.getElem?_set_ne e]

theorem rdv_set_self {h : List (Option Blk)} {id : Nat} {b : Blk} (hl : id < h.length) : rdv (h.set id (some b)) (.l id) = some b := by
  rw [rdv_l, List.getElem?_set_self hl]

/-- One block of the call's own is made, or turned. -/
theorem Sim.upd (h : Sim c I L s a w) {id : Nat} {p' : Pl} {b' : Blk} {w' : World} (hid : id < s.heap.length) (ho : ∀ b, s.heap[id]? = some (some b) → b.isTab = false) (hnt : b'.isTab = false) (hp : ∀ q, L (.l id) = some q → p'.w = q.w ∧ (p' = q ∨ q.gen < p'.gen))
    (hb : p'.virt = false → p'.b < w'.heap.size ∧ (w.heap.size ≤ p'.b ∨ ∃ q, L (.l id) = some q ∧ q.virt = false ∧ q.b = p'.b)) (hs : w.heap.size ≤ w'.heap.size) (hio : IO w w')
    (hw : ∀ b, b < w.heap.size → (∀ q, L (.l id) = some q → q.virt = false → b = q.b → I b) → w'.heap[b]? = w.heap[b]?)
    (hk : RLe (c.rc I L w) (c.rc I (addL L (.l id) p') w') → LLe L (addL L (.l id) p') → BlkOK (c.rc I (addL L (.l id) p') w') (addL L (.l id) p') w' p' b') (hf : b'.frozen = false → p'.virt = false → ¬ I p'.b) :
    Sim c I (addL L (.l id) p') ⟨s.env, s.heap.set id (some b')⟩ a w' := by
  have hl : LLe L (addL L (.l id) p') := by
    intro i q hq
    by_cases e : i = .l id
    · subst e
      refine ⟨p', by simp [addL], (hp q hq).1, ?_⟩
      rcases (hp q hq).2 with h | h
      · exact .inl h
      · exact .inr ⟨h, fun hb => hb⟩
    · exact ⟨q, by simp [addL, e, hq], rfl, .inl rfl⟩
  have hoth : ∀ i p, i ≠ .l id → L i = some p → p.virt = false → w'.heap[p.b]? = w.heap[p.b]? := by
    intro i p e hp hv
    refine hw _ (h.own i p hp hv).2 fun q hq hqv hbq => ?_
    exact absurd (h.inj i (.l id) p q hp hq hv hqv hbq) e
  have key : ∀ i p, i ≠ .l id → L i = some p → p.virt = false → p'.virt = false → p.b ≠ p'.b := by
    intro i p e hip hv hv' hbb
    rcases (hb hv').2 with h2 | ⟨q, hq, hqv, hqb⟩
    · have := (h.own i p hip hv).2
      omega
    · exact e (h.inj i (.l id) p q hip hq hv hqv (by rw [hqb]; exact hbb))
  refine h.turn hl hs hio (fun b hb hor => hw b hb fun q hq hqv hbq => ?_) (fun hr i b hib => ?_) (fun i p hip => ?_) (fun i p hip hv => ?_) (fun i j p q hip hjq hv hqv hbb => ?_)
  · rcases hor with hI | hne
    · exact hI
    · exact absurd hbq.symm (hne _ q hq hqv)
  · by_cases e : i = .l id
    · subst e
      rw [rdv_set_self hid] at hib
      injection hib with hib
      subst hib
      exact ⟨p', by simp [addL], hk hr hl, hf⟩
    · rw [rdv_set ho (fun b e => by injection e with e; subst e; exact hnt) e] at hib
      obtain ⟨p, hp, hk, hz⟩ := h.blk i b hib
      exact ⟨p, by simp [addL, e, hp], hk.mono hr hl (fun hv => hoth i p e hp hv) (fun hv o => cell?_heap _ _ (hoth i p e hp hv)), hz⟩
  · by_cases e : i = .l id
    · subst e
      exact ⟨b', rdv_set_self hid⟩
    · simp only [addL, e, if_false] at hip
      obtain ⟨b, hb⟩ := h.dom i p hip
      exact ⟨b, by rw [rdv_set ho (fun b e => by injection e with e; subst e; exact hnt) e]; exact hb⟩
  · by_cases e : i = .l id
    · subst e
      simp only [addL, if_true, Option.some.injEq] at hip
      subst hip
      obtain ⟨h1, h2⟩ := hb hv
      refine ⟨h1, ?_⟩
      rcases h2 with h2 | ⟨q, hq, hqv, hqb⟩
      · exact .inl h2
      · exact .inr ⟨_, q, hq, hqv, hqb⟩
    · simp only [addL, e, if_false] at hip
      have := h.own i p hip hv
      exact ⟨Nat.lt_of_lt_of_le this.2 hs, .inr ⟨i, p, hip, hv, rfl⟩⟩
  · by_cases e : i = .l id <;> by_cases e' : j = .l id
    · rw [e, e']
    · subst e
      simp only [addL, if_true, Option.some.injEq] at hip
      simp only [addL, e', if_false] at hjq
      subst hip
      exact absurd hbb.symm (key j q e' hjq hqv hv)
    · subst e'
      simp only [addL, if_true, Option.some.injEq] at hjq
      simp only [addL, e, if_false] at hip
      subst hjq
      exact absurd hbb (key i p e hip hv hqv)
    · simp only [addL, e, if_false] at hip
      simp only [addL, e', if_false] at hjq
      exact h.inj i j p q hip hjq hv hqv hbb

/-- What is handed out is held for good. -/
theorem Sim.freeze (h : Sim c I L s a w) {I' : Nat → Prop} {hp' : List (Option Blk)} (hi : ∀ b, I b → I' b) (hm : ∀ b, I' b → I b ∨ ∃ id p, L id = some p ∧ p.virt = false ∧ b = p.b ∧ ∀ b' : Blk, rdv hp' id = some b' → b'.frozen = true)
    (hh : ∀ (id : Ref) (b' : Blk), rdv hp' id = some b' → ∃ b : Blk, rdv s.heap id = some b ∧ b'.ct = b.ct ∧ b'.gen = b.gen ∧ (b'.frozen = false → b.frozen = false))
    (hd : ∀ (id : Ref) (b : Blk), rdv s.heap id = some b → ∃ b' : Blk, rdv hp' id = some b') : Sim c I' L ⟨s.env, hp'⟩ a w := by
  have hr : RLe (c.rc I L w) (c.rc I' L w) := rle_of_heap hi (fun _ _ => rfl) (LLe.refl L)
  refine ⟨h.env.mono hr (LLe.refl L), h.defers, ?_, ?_, h.own, h.inj, ?_, fun b hb => hi b (h.i0 b hb), ?_, h.same, h.fix, h.bx, h.grow, h.io⟩
  · intro id b' hb'
    obtain ⟨b, hb, hct, hg, hz⟩ := hh id b' hb'
    obtain ⟨p, hp, hk, hf⟩ := h.blk id b hb
    refine ⟨p, hp, ?_, fun hz' hv hI => ?_⟩
    · have := hk.mono hr (LLe.refl L) (w' := w) (fun _ => rfl) (fun _ _ => rfl)
      unfold BlkOK at this ⊢
      rw [hct, hg]
      exact this
    · rcases hm _ hI with hI | ⟨id', q, hq, hqv, hbq, hfr⟩
      · exact hf (hz hz') hv hI
      · have e := h.inj id id' p q hp hq hv hqv hbq
        subst e
        rw [hfr b' hb'] at hz'
        cases hz'
  · intro id p hp
    obtain ⟨b, hb⟩ := h.dom id p hp
    exact hd id b hb
  · intro b hb
    rcases hm b hb with hb | ⟨id, p, hp, hv, rfl, _⟩
    · exact h.imm b hb
    · exact (h.own id p hp hv).2
  · intro b hb
    rcases hm b hb with hb | ⟨id, p, hp, hv, rfl, _⟩
    · exact h.iN b hb
    · exact .inr (h.own id p hp hv).1

/-- A block that is read, where its place is known. -/
theorem Sim.get (h : Sim c I L s a w) {r : Ref} {p : Pl} {b : Blk} (hp : L r = some p) (hb : s.rd r = some b) : BlkOK (c.rc I L w) L w p b ∧ (b.frozen = false → p.virt = false → ¬ I p.b) := by
  obtain ⟨b', hb'⟩ := h.dom r p hp
  obtain ⟨p', hp', hk, hf⟩ := h.blk r b' hb'
  rw [hp] at hp'
  injection hp' with hp'
  subst hp'
  obtain ⟨h1, h2⟩ := rdH_rdv hb hb' hk
  exact ⟨h1, fun hz => hf (by rw [← h2]; exact hz)⟩

/-- where an object lies: its variable -/
theorem Sim.objL (h : Sim c I L s a w) {k i b : Nat} (e : (c.rc I L w).H k i = some b) : ∃ p, L (.o k i 0) = some p ∧ p.b = b ∧ p.o = 0 ∧ p.virt = false ∧ p.gen = 0 := by
  simp only [Ctx.rc, rcW, hOf, Option.map_eq_some_iff] at e
  obtain ⟨p, hp, rfl⟩ := e
  refine ⟨p, hp, rfl, ?_⟩
  obtain ⟨b, hb⟩ := h.dom _ p hp
  obtain ⟨p', hp', hk, _⟩ := h.blk _ b hb
  rw [hp] at hp'
  injection hp' with hp'
  subst hp'
  simp only [rdv] at hb
  split at hb
  · split at hb
    · split at hb
      · rename_i cs l st gs _ _
        simp only [viewV, Option.some.injEq] at hb
        subst hb
        obtain ⟨h1, hk⟩ := hk
        simp only [objCt] at hk
        cases hm : mapL cs (l.getD i (dfl (rowsTy cs))) with
        | none =>
          rw [hm] at hk
          simp only at hk
          obtain ⟨h2, h3, _⟩ := hk
          exact ⟨h3, h2, h1⟩
        | some m =>
          obtain ⟨ka, kb, kl, kc, rfl⟩ := mapL_some hm
          rw [hm] at hk
          simp only at hk
          obtain ⟨h2, h3, _⟩ := hk
          exact ⟨h3, h2, h1⟩
      · cases hb
    · cases hb
  · cases hb

theorem Sim.objInj (h : Sim c I L s a w) (k i j b : Nat) (e : (c.rc I L w).H k i = some b) (e' : (c.rc I L w).H k j = some b) : i = j := by
  obtain ⟨p, hp, hb, _, hv, _⟩ := h.objL e
  obtain ⟨p', hp', hb', _, hv', _⟩ := h.objL e'
  have := h.inj _ _ p p' hp hp' hv hv' (by rw [hb, hb'])
  injection this

/-- an object that is no map -/
theorem Sim.objCell (h : Sim c I L s a w) (k i b : Nat) {tb : Blk} {cs : List Cell} {l : List (Val (rowsTy cs))} {st : List (Nat × Nat)} {gs : List Nat} (htb : s.heap[k]? = some (some tb)) (hct : tb.ct = .tab cs l st gs) (hm : isMapK cs = false) (e : (c.rc I L w).H k i = some b) : ∃ cs T, w.heap[b]? = some (.cells cs T (0, 0)) := by
  obtain ⟨p, hp, rfl, _⟩ := h.objL e
  obtain ⟨b, hb⟩ := h.dom _ p hp
  obtain ⟨p', hp', hk, _⟩ := h.blk _ b hb
  rw [hp] at hp'
  injection hp' with hp'
  subst hp'
  simp only [rdv, htb, hct] at hb
  split at hb
  · simp only [viewV, objCt, mapL_none hm, Option.some.injEq] at hb
    subst hb
    obtain ⟨_, _, _, cc, T, h4, _⟩ := hk
    exact ⟨cc, T, h4⟩
  · cases hb

end
end Go.Eng

/-
  The abstract machine, part 5: what is handed out stands for the same.
-/
namespace Go.Eng

theorem HM.run_bind {α β : Type} {call : CallF} {h : Ref → Option Blk} {f : α → HM β} {b : β} : ∀ {m : HM α} {l : List Nat}, (m.bind f).run call h = some (b, l) →
    ∃ a l1 l2, m.run call h = some (a, l1) ∧ (f a).run call h = some (b, l2) ∧ l = l1 ++ l2
  | .ret a, l, e => ⟨a, [], l, rfl, e, rfl⟩
  | .rd id k, l, e => by
    simp only [HM.bind, HM.run] at e
    split at e
    · rename_i blk hb
      split at e
      · rename_i a l' hk
        obtain ⟨a', l1, l2, h1, h2, rfl⟩ := HM.run_bind hk
        simp only [Option.some.injEq, Prod.mk.injEq] at e
        obtain ⟨rfl, rfl⟩ := e
        exact ⟨a', id.ix :: l1, l2, by simp only [HM.run, hb, h1], h2, rfl⟩
      · cases e
    · cases e
  | .chk t k, l, e => by
    cases t with
    | true => exact HM.run_bind (m := k) e
    | false => cases e
  | .dec t x y, l, e => by
    cases t with
    | true => exact HM.run_bind (m := x) e
    | false => exact HM.run_bind (m := y) e
  | .call g as bs n k, l, e => by
    simp only [HM.bind, HM.run] at e
    split at e
    · rename_i r ts wr hr
      obtain ⟨a', l1, l2, h1, h2, rfl⟩ := HM.run_bind e
      exact ⟨a', l1, l2, by simp only [HM.run, hr, h1], h2, rfl⟩
    · cases e
  | .fail, l, e => by cases e

theorem HM.run_chk {α : Type} {call : CallF} {h : Ref → Option Blk} {b : Bool} {k : HM α} {r : α × List Nat} (e : (HM.chk b k).run call h = some r) : b = true ∧ k.run call h = some r := by
  cases b with
  | true => exact ⟨rfl, e⟩
  | false => cases e

theorem HM.run_rd {α : Type} {call : CallF} {h : Ref → Option Blk} {id : Ref} {k : Blk → HM α} {a : α} {l : List Nat} (e : (HM.rd id k).run call h = some (a, l)) :
    ∃ b l', h id = some b ∧ (k b).run call h = some (a, l') ∧ l = id.ix :: l' := by
  simp only [HM.run] at e
  split at e
  · rename_i b hb
    split at e
    · rename_i a' l' hk
      simp only [Option.some.injEq, Prod.mk.injEq] at e
      obtain ⟨rfl, rfl⟩ := e
      exact ⟨b, l', hb, hk, rfl⟩
    · cases e
  · cases e

theorem HM.run_one {call : CallF} {h : Ref → Option Blk} {x : Option AV} {a : AV} {l : List Nat} (e : (one x).run call h = some (a, l)) : x = some a ∧ l = [] := by
  unfold one at e
  split at e
  · simp only [HM.run, Option.some.injEq, Prod.mk.injEq] at e
    obtain ⟨rfl, rfl⟩ := e
    exact ⟨rfl, rfl⟩
  · cases e

section
variable {c : Ctx} {I : Nat → Prop} {L : Ref → Option Pl} {s : St} {a : Act} {w : World} {call : CallF}

theorem Rep.noL {R : RC} {L : Ref → Option Pl} {x : AV} {v : Value} (h : Rep R noL x v) : Rep R L x v :=
  h.mono (RLe.refl R) (fun _ _ e => by cases e)
theorem RepL.noL {R : RC} {L : Ref → Option Pl} {x : List AV} {v : List Value} (h : RepL R noL x v) : RepL R L x v :=
  h.mono (RLe.refl R) (fun _ _ e => by cases e)

theorem getD_cut {α : Type} (l : List α) (i k j : Nat) (d : α) (h : j < k) : ((l.drop i).take k).getD j d = l.getD (i + j) d := by
  simp [List.getD_eq_getElem?_getD, h, List.getElem?_drop]

/-- a slice of a block of the call's own, read as plain data -/
theorem Sim.slice (h : Sim c I L s a w) {id : Ref} {i n g : Nat} {b : Blk} {t : Ty} {l : List (Val t)} {y : Value} {u : Ty} (hx : Rep (c.rc I L w) L (.lsl u id i n g) y) (hb : s.rd id = some b) (hg : g = b.gen)
    (hct : b.ct = .sl t l) (hle : i + n ≤ l.length) {I' : Nat → Prop} (hi : ∀ b, I b → I' b) (hI : ∀ p, L id = some p → p.virt = false → I' p.b) :
    RepT (c.rc I' L w) (.sl t) ((l.drop i).take n) [y] := by
  simp only [Rep] at hx
  obtain ⟨p, hp, _, hge, ad, cap, rfl, hcap, hsome, hy⟩ := hx
  obtain ⟨⟨hpg, hk⟩, hf⟩ := h.get hp hb
  rw [hct] at hk
  have hor := hy (by rw [hpg, hg])
  have hlen : ((l.drop i).take n).length = n := by simp; omega
  have hr : RLe (c.rc I L w) (c.rc I' L w) := rle_of_heap hi (fun _ _ => rfl) (LLe.refl L)
  refine ⟨ad, cap, by rw [hlen], by rw [hlen]; exact hcap, fun hne => ?_, fun hz => by
    rcases hor with h0 | ⟨_, had, _⟩
    · exact h0
    · rw [hz] at had; cases had⟩
  rw [hlen] at hne
  rcases hk with ⟨hv, rfl, _⟩ | ⟨hv, hw, cs, T, hh, hs, hsz, hrow⟩
  · simp at hle; omega
  · rcases hor with h0 | ⟨_, had, _⟩
    · omega
    · refine ⟨p.b, _, had, hI p hp hv, fun j hj => ?_⟩
      rw [hlen] at hj
      rw [getD_cut l i n j _ hj]
      obtain ⟨d, hd, hat⟩ := hrow (i + j) (by omega)
      refine ⟨d, hd.mono hr, ?_⟩
      rw [← hw, Nat.add_assoc, ← Nat.add_mul]
      exact hat

/-- what is told of where things are handed out -/
def Held (L : Ref → Option Pl) (s : St) (ids : List Ref) (rs : List Nat) : Prop := ∀ id, id ∈ ids → id.ix ∈ rs ∧ ∃ p, L id = some p ∧ ∃ b, s.rd id = some b

mutual
theorem exportN_sound (h : Sim c I L s a w) : ∀ (n : Nat) {x y : AV} {ids : List Ref} {rs : List Nat} {v : Value}, (exportN n x).run call s.rd = some ((y, ids), rs) → Rep (c.rc I L w) L x v →
    (∀ id, id ∈ ids → id.ix ∈ rs ∧ ∃ p, L id = some p ∧ ∃ b, s.rd id = some b ∧ b.isTab = false) ∧
    ∀ I' : Nat → Prop, (∀ b, I b → I' b) → (∀ id, id ∈ ids → ∀ p, L id = some p → p.virt = false → I' p.b) → Rep (c.rc I' L w) noL y v
  | 0, x, y, ids, rs, v, e, hx => by simp only [exportN, HM.run] at e; cases e
  | n + 1, x, y, ids, rs, v, e, hx => by
    have triv : ∀ {z : AV}, (HM.ret (z, ([] : List Ref))).run call s.rd = some ((y, ids), rs) → (∀ I' : Nat → Prop, (∀ b, I b → I' b) → Rep (c.rc I' L w) Go.Eng.noL z v) →
        (∀ id, id ∈ ids → id.ix ∈ rs ∧ ∃ p, L id = some p ∧ ∃ b, s.rd id = some b ∧ b.isTab = false) ∧ ∀ I' : Nat → Prop, (∀ b, I b → I' b) → (∀ id, id ∈ ids → ∀ p, L id = some p → p.virt = false → I' p.b) → Rep (c.rc I' L w) Go.Eng.noL y v := by
      intro z e hz
      simp only [HM.run, Option.some.injEq, Prod.mk.injEq] at e
      obtain ⟨⟨rfl, rfl⟩, rfl⟩ := e
      exact ⟨fun id hid => by simp at hid, fun I' hi _ => hz I' hi⟩
    have hR : ∀ I' : Nat → Prop, (∀ b, I b → I' b) → RLe (c.rc I L w) (c.rc I' L w) := fun I' hi => rle_of_heap hi (fun _ _ => rfl) (LLe.refl L)
    cases x with
    | v z => exact triv (by simpa only [exportN] using e) fun I' hi => by simpa only [Rep] using hx
    | er z => exact triv (by simpa only [exportN] using e) fun I' hi => by simp only [Rep] at *; exact hx.mono (hR I' hi)
    | isl t l => exact triv (by simpa only [exportN] using e) fun I' hi => by simp only [Rep] at *; exact hx.mono (hR I' hi)
    | nsl t l => exact triv (by simpa only [exportN] using e) fun I' hi => by simp only [Rep] at *; exact hx.1.mono (hR I' hi)
    | iptr r j => exact triv (by simpa only [exportN] using e) fun I' hi => (show Rep (c.rc I L w) Go.Eng.noL (.iptr r j) v by simpa only [Rep] using hx).mono (hR I' hi) (LLe.refl _)
    | gptr g j => exact triv (by simpa only [exportN] using e) fun I' hi => by simpa only [Rep] using hx
    | hd k x => exact triv (by simpa only [exportN] using e) fun I' hi => by simp only [Rep] at *; exact RepT.mono (hR I' hi) (.hd k) hx
    | mh k x => exact triv (by simpa only [exportN] using e) fun I' hi => by simp only [Rep] at *; exact RepT.mono (hR I' hi) (.mh k) hx
    | dy t x => exact triv (by simpa only [exportN] using e) fun I' hi => by simp only [Rep] at *; exact RepT.mono (hR I' hi) t hx
    | top => simp only [exportN, HM.run] at e; cases e
    | agg l =>
      simp only [exportN] at e
      obtain ⟨⟨l', f⟩, r1, r2, e1, e2, rfl⟩ := HM.run_bind e
      simp only [HM.run, Option.some.injEq, Prod.mk.injEq] at e2
      obtain ⟨⟨rfl, rfl⟩, rfl⟩ := e2
      simp only [Rep] at hx
      obtain ⟨cs, rfl, hl⟩ := hx
      obtain ⟨g1, g2⟩ := exportL_sound h n e1 hl
      exact ⟨fun id hid => ⟨by simp [(g1 id hid).1], (g1 id hid).2⟩, fun I' hi hI => by simp only [Rep]; exact ⟨cs, rfl, g2 I' hi hI⟩⟩
    | tup l =>
      simp only [exportN] at e
      obtain ⟨⟨l', f⟩, r1, r2, e1, e2, rfl⟩ := HM.run_bind e
      simp only [HM.run, Option.some.injEq, Prod.mk.injEq] at e2
      obtain ⟨⟨rfl, rfl⟩, rfl⟩ := e2
      simp only [Rep] at hx
      obtain ⟨cs, rfl, hl⟩ := hx
      obtain ⟨g1, g2⟩ := exportL_sound h n e1 hl
      exact ⟨fun id hid => ⟨by simp [(g1 id hid).1], (g1 id hid).2⟩, fun I' hi hI => by simp only [Rep]; exact ⟨cs, rfl, g2 I' hi hI⟩⟩
    | iface t z =>
      simp only [exportN] at e
      obtain ⟨⟨l', f⟩, r1, r2, e1, e2, rfl⟩ := HM.run_bind e
      simp only [HM.run, Option.some.injEq, Prod.mk.injEq] at e2
      obtain ⟨⟨rfl, rfl⟩, rfl⟩ := e2
      simp only [Rep] at hx
      obtain ⟨u, rfl, hl⟩ := hx
      obtain ⟨g1, g2⟩ := exportN_sound h n e1 hl
      exact ⟨fun id hid => ⟨by simp [(g1 id hid).1], (g1 id hid).2⟩, fun I' hi hI => by simp only [Rep]; exact ⟨u, rfl, g2 I' hi hI⟩⟩
    | fn f a1 c1 =>
      simp only [exportN] at e
      obtain ⟨⟨l1, f1⟩, r1, r2, e1, e2, rfl⟩ := HM.run_bind e
      obtain ⟨⟨l2, f2⟩, r3, r4, e3, e4, rfl⟩ := HM.run_bind e2
      simp only [HM.run, Option.some.injEq, Prod.mk.injEq] at e4
      obtain ⟨⟨rfl, rfl⟩, rfl⟩ := e4
      simp only [Rep] at hx
      obtain ⟨a', c', rfl, ha, hc⟩ := hx
      obtain ⟨g1, g2⟩ := exportL_sound h n e1 ha
      obtain ⟨k1, k2⟩ := exportL_sound h n e3 hc
      refine ⟨fun id hid => ?_, fun I' hi hI => ?_⟩
      · rcases List.mem_append.1 hid with hid | hid
        · exact ⟨by simp [(g1 id hid).1], (g1 id hid).2⟩
        · exact ⟨by simp [(k1 id hid).1], (k1 id hid).2⟩
      · simp only [Rep]
        exact ⟨a', c', rfl, g2 I' hi fun id hid => hI id (List.mem_append.2 (.inl hid)), k2 I' hi fun id hid => hI id (List.mem_append.2 (.inr hid))⟩
    | lsl u id i k g =>
      simp only [exportN] at e
      obtain ⟨b, l', hb, e', rfl⟩ := HM.run_rd e
      clear e
      have e := e'
      clear e'
      split at e
      · rename_i hg
        split at e
        · rename_i t l hct
          obtain ⟨hle, e⟩ := HM.run_chk e
          simp only [HM.run, Option.some.injEq, Prod.mk.injEq] at e
          obtain ⟨⟨rfl, rfl⟩, rfl⟩ := e
          refine ⟨fun id' hid => ?_, fun I' hi hI => ?_⟩
          · simp only [List.mem_singleton] at hid
            subst hid
            simp only [Rep] at hx
            obtain ⟨p, hp, _⟩ := hx
            exact ⟨by simp, p, hp, b, hb, by simp [Blk.isTab, hct]⟩
          · have := h.slice hx hb hg hct (of_decide_eq_true hle) hi (fun p hp hv => hI id (by simp) p hp hv)
            simpa only [Rep] using this
        · cases e
      · cases e
    | lptr id i j g =>
      simp only [exportN] at e
      cases id with
      | o k x q =>
        simp only at e
        split at e
        · rename_i hc
          obtain ⟨rfl, rfl, rfl⟩ := hc
          refine triv e fun I' hi => ?_
          simp only [Rep] at hx ⊢
          obtain ⟨p, hp, hge, q, rfl, hy⟩ := hx
          have hH : (c.rc I L w).H k x = some p.b := by simp [Ctx.rc, rcW, hOf, hp]
          obtain ⟨p', hp', _, hpo, _, hpg⟩ := h.objL hH
          rw [hp] at hp'
          injection hp' with hp'
          subst hp'
          have hq := hy (by omega)
          subst hq
          exact ⟨p.b, by simp [Ctx.rc, rcW, hOf, hp], by simp [hpo]⟩
        · cases e
      | l id =>
      simp only at e
      obtain ⟨b, l', hb, e', rfl⟩ := HM.run_rd e
      clear e
      have e := e'
      clear e'
      split at e
      · rename_i hg
        simp only [Rep] at hx
        obtain ⟨p, hp, hge, q, rfl, hy⟩ := hx
        obtain ⟨⟨hpg, hk⟩, hf⟩ := h.get hp hb
        have hq := hy (by rw [hpg, hg])
        subst hq
        split at e
        · rename_i row hct
          rw [hct] at hk
          obtain ⟨hv, ho, cs, T, hh, hrow⟩ := hk
          split at e
          · rename_i hi0
            subst hi0
            obtain ⟨⟨r', f⟩, r1, r2, e1, e2, rfl⟩ := HM.run_bind e
            simp only [HM.run, Option.some.injEq, Prod.mk.injEq] at e2
            obtain ⟨⟨rfl, rfl⟩, rfl⟩ := e2
            obtain ⟨g1, g2⟩ := exportL_sound h n e1 hrow
            refine ⟨fun id' hid => ?_, fun I' hi hI => ?_⟩
            · simp only [List.mem_cons] at hid
              rcases hid with rfl | hid
              · exact ⟨by simp, p, hp, b, hb, by simp [Blk.isTab, hct]⟩
              · exact ⟨by simp [(g1 id' hid).1], (g1 id' hid).2⟩
            · simp only [Rep]
              refine ⟨p.b, p.o, by simp, hI _ (by simp) p hp hv, cs.toList, g2 I' hi (fun id' hid => hI id' (by simp [hid])), ?_⟩
              intro k v hk
              show w.cell? _ = _
              rw [cell?_cells hh, ho]
              simpa using hk
          · cases e
        · rename_i t l hct
          rw [hct] at hk
          obtain ⟨hlt, e⟩ := HM.run_chk e
          have hlt := of_decide_eq_true hlt
          simp only [HM.run, Option.some.injEq, Prod.mk.injEq] at e
          obtain ⟨⟨rfl, rfl⟩, rfl⟩ := e
          refine ⟨fun id' hid => ?_, fun I' hi hI => ?_⟩
          · simp only [List.mem_singleton] at hid
            subst hid
            exact ⟨by simp, p, hp, b, hb, by simp [Blk.isTab, hct]⟩
          · rcases hk with ⟨hv, rfl, _⟩ | ⟨hv, hw, cs, T, hh, hs, hsz, hrow⟩
            · simp at hlt
            · obtain ⟨d, hd, hat⟩ := hrow i hlt
              simp only [Rep]
              exact ⟨p.b, p.o + i * p.w, rfl, hI _ (by simp) p hp hv, d, RepL.ofT t (hd.mono (hR I' hi)), hat⟩
        · cases e
        · cases e
      · cases e
theorem exportL_sound (h : Sim c I L s a w) : ∀ (n : Nat) {x y : List AV} {ids : List Ref} {rs : List Nat} {v : List Value}, (exportN.exportL n x).run call s.rd = some ((y, ids), rs) → RepL (c.rc I L w) L x v →
    (∀ id, id ∈ ids → id.ix ∈ rs ∧ ∃ p, L id = some p ∧ ∃ b, s.rd id = some b ∧ b.isTab = false) ∧
    ∀ I' : Nat → Prop, (∀ b, I b → I' b) → (∀ id, id ∈ ids → ∀ p, L id = some p → p.virt = false → I' p.b) → RepL (c.rc I' L w) noL y v
  | n, [], y, ids, rs, v, e, hx => by
    simp only [exportN.exportL, mapX, HM.run, Option.some.injEq, Prod.mk.injEq] at e
    obtain ⟨⟨rfl, rfl⟩, rfl⟩ := e
    exact ⟨fun id hid => by simp at hid, fun I' hi _ => by simpa only [RepL] using hx⟩
  | n, x :: r, y, ids, rs, v, e, hx => by
    simp only [exportN.exportL, mapX] at e
    obtain ⟨⟨x', f⟩, r1, r2, e1, e2, rfl⟩ := HM.run_bind e
    obtain ⟨⟨l2, f2⟩, r3, r4, e3, e4, rfl⟩ := HM.run_bind e2
    simp only [HM.run, Option.some.injEq, Prod.mk.injEq] at e4
    obtain ⟨⟨rfl, rfl⟩, rfl⟩ := e4
    simp only [RepL] at hx
    obtain ⟨y0, t, rfl, hy0, ht⟩ := hx
    obtain ⟨g1, g2⟩ := exportN_sound h n e1 hy0
    obtain ⟨k1, k2⟩ := exportL_sound h n e3 ht
    refine ⟨fun id hid => ?_, fun I' hi hI => ?_⟩
    · rcases List.mem_append.1 hid with hid | hid
      · exact ⟨by simp [(g1 id hid).1], (g1 id hid).2⟩
      · exact ⟨by simp [(k1 id hid).1], (k1 id hid).2⟩
    · simp only [RepL]
      exact ⟨y0, t, rfl, g2 I' hi fun id hid => hI id (List.mem_append.2 (.inl hid)), k2 I' hi fun id hid => hI id (List.mem_append.2 (.inr hid))⟩
end

end
end Go.Eng
