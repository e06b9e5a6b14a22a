/-
  The abstract machine, part 1: plain data by type, values, what an operation reads and makes.
-/
import Derived.Calls
namespace Go.Eng

/-- An error as plain data: none, one of the program's, or one with a place around it. -/
inductive Er where
  | nil
  | s (g : Nat)
  | at (pos : Int) (g : Nat)
  deriving DecidableEq, Inhabited

/-- The types of plain data. ('ref': a pointer to what nobody changes; 'clo': a closure of one function over such; 'nat': a count, no data of the program's.) -/
inductive Ty where
  | int (k : IntKind)
  | bool | str | flt | err | unit | nat
  | pair (a b : Ty)
  | st (a : Ty)
  | sl (a : Ty)
  | ref (a : Ty)
  | clo (f : FuncId) (c : Ty)
  | hd (k : Nat)                     -- a pointer to an object of a kind, or none
  deriving DecidableEq, Inhabited

/-- A block of the heap: one by its number, or what belongs to an object: its variable (0), or a slice of its own (1 ..). -/
inductive Ref where
  | l (id : Nat)
  | o (k i q : Nat)
  deriving DecidableEq, Inhabited

/-- where in the heap it is kept -/
def Ref.ix : Ref → Nat
  | .l id => id
  | .o k _ _ => k

/-- an object's variable -/
def Ref.isBox : Ref → Prop
  | .o _ _ 0 => True
  | _ => False

@[reducible] def Val : Ty → Type
  | .int _ => Int
  | .bool => Bool
  | .str => ByteArray
  | .flt => Nat
  | .err => Er
  | .unit => Unit
  | .nat => Nat
  | .pair a b => Val a × Val b
  | .st a => Val a
  | .sl a => List (Val a)
  | .ref a => Val a
  | .clo _ c => Val c
  | .hd _ => Option Nat

/-- nothings -/
def dfl : (t : Ty) → Val t
  | .int _ => (0 : Int)
  | .bool => false
  | .str => ByteArray.empty
  | .flt => (0 : Nat)
  | .err => Er.nil
  | .unit => ()
  | .nat => (0 : Nat)
  | .pair a b => (dfl a, dfl b)
  | .st a => dfl a
  | .sl a => ([] : List (Val a))
  | .ref a => dfl a
  | .clo _ c => dfl c
  | .hd _ => (none : Option Nat)

/-- how many cells -/
def Ty.size : Ty → Nat
  | .unit | .nat => 0
  | .pair a b => a.size + b.size
  | .st a => a.size
  | _ => 1

inductive AV where
  | v (x : Value)                          -- an atom
  | er (e : Er)
  | agg (l : List AV)
  | tup (l : List AV)
  | isl (t : Ty) (l : List (Val t))        -- a slice that nobody changes
  | nsl (t : Ty) (l : List (Val t))        -- … that is not nil
  | iptr (row : List AV) (j : Nat)         -- a pointer into what nobody changes
  | gptr (g j : Nat)                       -- into a package-level variable
  | lsl (t : Ty) (id : Ref) (i n gen : Nat) -- a slice of a block of this call's own
  | lptr (id : Ref) (i j gen : Nat)        -- a pointer into one
  | hd (k : Nat) (x : Option Nat)          -- a pointer to an object, or none
  | iface (t : TypeId) (x : AV)
  | fn (f : Fn) (first cap : List AV)
  | top                                    -- whatever

instance : Inhabited AV := ⟨.top⟩

/-- data's cells -/
def cellsT : (t : Ty) → Val t → List AV
  | .int k, n => [.v (.int k n)]
  | .bool, b => [.v (.bool b)]
  | .str, s => [.v (.string s)]
  | .flt, b => [.v (.float .f64 b)]
  | .err, e => [.er e]
  | .unit, _ => []
  | .nat, _ => []
  | .pair a b, p => cellsT a p.1 ++ cellsT b p.2
  | .st a, x => cellsT a x
  | .sl a, l => [.isl a l]
  | .ref a, x => [.iptr (cellsT a x) 0]
  | .clo f c, x => [.fn (.func f) [] (cellsT c x)]
  | .hd k, x => [.hd k x]

def Ty.isAgg : Ty → Bool
  | .st _ => true
  | _ => false

/-- data as one value -/
def encA (t : Ty) (x : Val t) : AV := match t.isAgg with
  | true => .agg (cellsT t x)
  | false => (cellsT t x).headD .top

def sameK : IntKind → IntKind → Bool
  | .i8, .i8 | .i16, .i16 | .i32, .i32 | .i64, .i64 | .u8, .u8 | .u16, .u16 | .u32, .u32 | .u64, .u64 => true
  | _, _ => false

structure Names where
  errT : TypeId                      -- the type of the program's errors
  atT : TypeId                       -- the type of errors with a place

/-- an error's cell read as data -/
def decE (N : Names) : AV → Option Er
  | .er e => some e
  | .v .nilIface => some .nil
  | .iface t (.iptr [.v (.int .i64 p), .er (.s g)] 0) => if t = N.atT then some (.at p g) else none
  | _ => none

def decI (k : IntKind) : List AV → Option (Int × List AV)
  | .v (.int k' n) :: r => match sameK k k' with
    | true => some (n, r)
    | false => none
  | _ => none
def decB : List AV → Option (Bool × List AV)
  | .v (.bool b) :: r => some (b, r)
  | _ => none
def decS : List AV → Option (ByteArray × List AV)
  | .v (.string s) :: r => some (s, r)
  | _ => none
def decF : List AV → Option (Nat × List AV)
  | .v (.float .f64 b) :: r => some (b, r)
  | _ => none
def decEr (N : Names) : List AV → Option (Er × List AV)
  | x :: r => match decE N x with
    | some e => some (e, r)
    | none => none
  | [] => none
def castL {a b : Ty} (h : a = b) (l : List (Val a)) : List (Val b) := h ▸ l

def decSl (a : Ty) : List AV → Option (List (Val a) × List AV)
  | .isl b l :: r => if h : b = a then some (castL h l, r) else none
  | .v (.slice none 0 0) :: r => some ([], r)
  | _ => none
def decRef : List AV → Option (List AV × List AV)
  | .iptr row 0 :: r => some (row, r)
  | _ => none
def decClo (f : FuncId) : List AV → Option (List AV × List AV)
  | .fn (.func g) [] cap :: r => if g = f then some (cap, r) else none
  | _ => none

def decHd (k : Nat) : List AV → Option (Option Nat × List AV)
  | .hd k' x :: r => match decide (k' = k) with
    | true => some (x, r)
    | false => none
  | .v (.pointer none) :: r => some (none, r)
  | _ => none

/-- cells read as data; what is left of them -/
def decT (N : Names) : (t : Ty) → List AV → Option (Val t × List AV)
  | .int k, l => decI k l
  | .bool, l => decB l
  | .str, l => decS l
  | .flt, l => decF l
  | .err, l => decEr N l
  | .unit, l => some ((), l)
  | .nat, _ => none
  | .pair a b, l => match decT N a l with
    | some (x, r) => match decT N b r with
      | some (y, r') => some ((x, y), r')
      | none => none
    | none => none
  | .st a, l => decT N a l
  | .sl a, l => decSl a l
  | .ref a, l => match decRef l with
    | some (row, r) => match decT N a row with
      | some (x, []) => some (x, r)
      | _ => none
    | none => none
  | .clo f c, l => match decClo f l with
    | some (cap, r) => match decT N c cap with
      | some (x, []) => some (x, r)
      | _ => none
    | none => none
  | .hd k, l => decHd k l

def AV.cells : AV → Option (List AV)
  | .agg l => some l
  | .tup _ => none
  | .top => none
  | .v (.agg _) => none
  | .v (.tuple _) => none
  | x => some [x]

/-- one value read as data -/
def decA (N : Names) (t : Ty) (x : AV) : Option (Val t) := match x.cells with
  | some cs => match decT N t cs with
    | some (y, []) => some y
    | _ => none
  | none => none

/-- what lies in a variable of the call's own -/
inductive Cell where
  | d (t : Ty)         -- plain data
  | sl (t : Ty)        -- a slice of the call's own
  deriving DecidableEq, Inhabited

def rowsTy : List Cell → Ty
  | [] => .unit
  | .d t :: r => .pair t (rowsTy r)
  | .sl t :: r => .pair (.sl t) (rowsTy r)

/-- what a block bears: a variable's cells, or a slice's elements; or all objects of a kind: their rows, which slices of which ones are taken away, how often slices were turned -/
inductive Ct where
  | box (row : List AV)
  | sl (t : Ty) (l : List (Val t))
  | tab (cs : List Cell) (l : List (Val (rowsTy cs))) (st : List (Nat × Nat)) (gs : List Nat)

structure Blk where
  ct : Ct
  gen : Nat
  frozen : Bool

/-- what functions answer: a value, and the blocks that are the caller's own from then on, and the objects as they are then -/
abbrev CallF := FuncId → List AV → List Blk → Nat → Option (AV × List Blk × List (Nat × Blk))

/-- what an operation reads of the heap, asks and calls, and what it answers -/
inductive HM (α : Type) where
  | ret (a : α)
  | rd (id : Ref) (k : Blk → HM α)
  | chk (b : Bool) (k : HM α)
  | dec (b : Bool) (x y : HM α)
  | call (f : FuncId) (args : List AV) (bs : List Blk) (n : Nat) (k : AV → List Blk → List (Nat × Blk) → HM α)
  | fail

namespace HM
def bind {α β : Type} : HM α → (α → HM β) → HM β
  | .ret a, f => f a
  | .rd id k, f => .rd id fun b => (k b).bind f
  | .chk b k, f => .chk b (k.bind f)
  | .dec b x y, f => .dec b (x.bind f) (y.bind f)
  | .call g as bs n k, f => .call g as bs n fun r ts wr => (k r ts wr).bind f
  | .fail, _ => .fail
def ofOpt {α : Type} : Option α → HM α
  | some a => .ret a
  | none => .fail
/-- the answer, and the places read -/
def run {α : Type} (call : CallF) (h : Ref → Option Blk) : HM α → Option (α × List Nat)
  | .ret a => some (a, [])
  | .rd id k => match h id with
    | some b => match (k b).run call h with
      | some (a, l) => some (a, id.ix :: l)
      | none => none
    | none => none
  | .chk b k => match b with
    | true => k.run call h
    | false => none
  | .dec b x y => match b with
    | true => x.run call h
    | false => y.run call h
  | .call f as bs n k => match call f as bs n with
    | some (r, ts, wr) => (k r ts wr).run call h
    | none => none
  | .fail => none
end HM

/-- what an operation makes: a value, blocks -/
structure Dl where
  x : AV
  wr : List (Ref × Blk) := []

inductive TD where
  | bool | str | iface | other
  | int (k : IntKind)
  | float (k : FloatKind)
  | ptr (e : TypeId)
  | slice (e : TypeId)
  | arr (n : Nat) (e : TypeId)
  | struct (fs : List (TypeId × Nat × Nat))   -- each field's type, place and size

structure TyI where
  desc : TD
  size : Nat
  bytes : Nat
  zero : List AV
  ty : Option Ty := none                -- as plain data
  cty : Option Ty := none               -- as what a slice of such is written out with, where its nothing is no such data

structure FnI where
  body : Code
  ntmps : Nat
  results : List ResultVar

/-- functions of the library without a body that are known -/
inductive ExtK where | bits | frombits | even
  deriving DecidableEq, Inhabited

/-- functions that lay elements into a slice, or take some out (elements of how many cells, of how many bytes) -/
inductive LstK where
  | ins (sz wd : Nat)
  | del (sz : Nat)
  | fil (g : FuncId) (k : Nat)     -- what points where a variable does, that the closure holds, is taken out
  deriving DecidableEq, Inhabited

structure Env extends Names where
  ty : TypeId → Option TyI
  fn : FuncId → Option FnI
  glob : Nat → Option (List AV)
  ext : FuncId → Option ExtK := fun _ => none
  kind : TypeId → Option (Nat × List Cell) := fun _ => none   -- the types whose variables are objects
  kinds : List (List Cell) := []                              -- … what their rows bear
  ks : FuncId → List Nat := fun _ => []                       -- whose objects a function sees
  lst : FuncId → Option LstK := fun _ => none

def TD.isAgg : TD → Bool
  | .struct _ | .arr _ _ => true
  | _ => false

/-- a row's cells of one type, from j on, as a value -/
def partA (ti : TyI) (row : List AV) (j : Nat) : Option AV :=
  match ti.desc.isAgg with
  | true => if j + ti.size ≤ row.length then some (.agg ((row.drop j).take ti.size)) else none
  | false => row[j]?

def setRow (row : List AV) (j : Nat) : List AV → List AV
  | [] => row
  | x :: r => setRow (row.set j x) (j + 1) r

def fillA (place : Nat → Option (Nat × Nat)) (cells : List AV) : List (Nat × AV) → Option (List AV)
  | [] => some cells
  | (i, v) :: rest =>
    match place i, v.cells with
    | some (off, size), some cs =>
      if cs.length = size ∧ off + size ≤ cells.length then fillA place (setRow cells off cs) rest else none
    | _, _ => none

def AV.int? : AV → Option (IntKind × Int)
  | .v (.int k n) => some (k, n)
  | _ => none

/-- one after the other -/
def mapX (f : AV → HM (AV × List Ref)) : List AV → HM (List AV × List Ref)
  | [] => .ret ([], [])
  | x :: r => (f x).bind fun (x', f1) => (mapX f r).bind fun (r', f') => .ret (x' :: r', f1 ++ f')

/-- the references into this call's own heap are told as values; the blocks that they come to -/
def exportN : Nat → AV → HM (AV × List Ref)
  | 0, _ => .fail
  | n + 1, x => match x with
    | .v y => .ret (.v y, [])
    | .er e => .ret (.er e, [])
    | .isl t l => .ret (.isl t l, [])
    | .nsl t l => .ret (.isl t l, [])
    | .iptr r j => .ret (.iptr r j, [])
    | .gptr g j => .ret (.gptr g j, [])
    | .top => .fail
    | .agg l => (mapX (exportN n) l).bind fun (l', f) => .ret (.agg l', f)
    | .tup l => (mapX (exportN n) l).bind fun (l', f) => .ret (.tup l', f)
    | .iface t y => (exportN n y).bind fun (y', f) => .ret (.iface t y', f)
    | .fn f a c => (mapX (exportN n) a).bind fun (a', f1) => (mapX (exportN n) c).bind fun (c', f2) => .ret (.fn f a' c', f1 ++ f2)
    | .lsl _ id i k gen => .rd id fun b => if gen = b.gen then (match b.ct with
      | .sl t l => .chk (decide (i + k ≤ l.length)) (.ret (.isl t ((l.drop i).take k), [id]))
      | _ => .fail) else .fail
    | .hd k x => .ret (.hd k x, [])
    | .lptr id i j gen => match id with
      | .o k x q => if q = 0 ∧ i = 0 ∧ j = 0 then .ret (.hd k (some x), []) else .fail
      | .l id => .rd (.l id) fun b => if gen = b.gen then (match b.ct with
        | .box r => if i = 0 then (mapX (exportN n) r).bind fun (r', f) => .ret (.iptr r' j, .l id :: f) else .fail
        | .sl t l => .chk (decide (i < l.length)) (.ret (.iptr (cellsT t (l.getD i (dfl t))) j, [.l id]))
        | .tab _ _ _ _ => .fail) else .fail

def exportN.exportL (n : Nat) (l : List AV) : HM (List AV × List Ref) := mapX (exportN n) l

end Go.Eng
