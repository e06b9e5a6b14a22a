/-
  The abstract machine, part 2: operations, regions, code.
-/
import Derived.Test.YtohkmbpdjigjdaaDoorLgEngA
namespace Go.Eng

def isConst : Operand → Bool
  | .const _ => true
  | _ => false

/-- does it stand for one cell? -/
def AV.isCell : AV → Bool
  | .v (.agg _) | .v (.tuple _) => false
  | .agg _ | .tup _ | .top => false
  | _ => true

def Er.isNil : Er → Bool
  | .nil => true
  | _ => false

/-- may two errors be held against each other? (two nils, or two with places, may not) -/
def okEq : Er → Er → Bool
  | .nil, .nil => false
  | .at _ _, .at _ _ => false
  | _, _ => true

/-- '==' of two values (where it is known) -/
def eqA (d : TD) (c : Bool) (x y : AV) : HM Bool :=
  match d, x, y with
  | .bool, .v (.bool a), .v (.bool b) => .ret (a == b)
  | .iface, .v .nilIface, .v .nilIface => if c then .ret true else .fail
  | .iface, .v .nilIface, .iface _ _ => .ret false
  | .iface, .iface _ _, .v .nilIface => .ret false
  | .iface, .er e, .v .nilIface => if c then .ret e.isNil else .fail
  | .iface, .v .nilIface, .er e => if c then .ret e.isNil else .fail
  | .iface, .er e, .er e' => .chk (okEq e e') (.ret (decide (e = e')))
  | .ptr _, .v (.pointer none), .v (.pointer none) => .ret true
  | .ptr _, .v (.pointer none), .lptr _ _ _ _ => .ret false
  | .ptr _, .lptr _ _ _ _, .v (.pointer none) => .ret false
  | .ptr _, .v (.pointer none), .iptr _ _ => .ret false
  | .ptr _, .iptr _ _, .v (.pointer none) => .ret false
  | .slice _, .nsl _ _, .v (.slice none 0 0) => .ret false
  | .slice _, .v (.slice none 0 0), .v (.slice none 0 0) => .ret true
  | _, _, _ => .fail

def bitsI (op : BinOp) (k : IntKind) (a b : Int) : Int :=
  k.wrap (match op with
    | .and => BitVec.ofInt k.bits a &&& BitVec.ofInt k.bits b
    | .or => BitVec.ofInt k.bits a ||| BitVec.ofInt k.bits b
    | .xor => BitVec.ofInt k.bits a ^^^ BitVec.ofInt k.bits b
    | _ => BitVec.ofInt k.bits a &&& ~~~BitVec.ofInt k.bits b).toNat

def shlI (k : IntKind) (a b : Int) : Int := k.wrap (a * 2 ^ (min b.toNat k.bits))
def shrI (k : IntKind) (a b : Int) : Int := a.fdiv (2 ^ (min b.toNat k.bits))

def int (k : IntKind) (n : Int) : HM AV := .ret (.v (.int k n))
def bool (b : Bool) : HM AV := .ret (.v (.bool b))

/-- an operation of two whole numbers -/
def binI (op : BinOp) (k k' : IntKind) (a b : Int) : HM AV :=
  match op with
  | .shl => .chk (decide (0 ≤ b)) (int k (shlI k a b))
  | .shr => .chk (decide (0 ≤ b)) (int k (shrI k a b))
  | op => match sameK k k' with
    | false => .fail
    | true => match op with
      | .add => int k (k.wrap (a + b))
      | .sub => int k (k.wrap (a - b))
      | .mul => int k (k.wrap (a * b))
      | .quo => .chk (decide (b ≠ 0)) (int k (k.wrap (a.tdiv b)))
      | .rem => .chk (decide (b ≠ 0)) (int k (a.tmod b))
      | .eql => bool (decide (a = b))
      | .neq => bool (decide (a ≠ b))
      | .lss => bool (decide (a < b))
      | .leq => bool (decide (a ≤ b))
      | .gtr => bool (decide (b < a))
      | .geq => bool (decide (b ≤ a))
      | op => int k (bitsI op k a b)

def binS (op : BinOp) (a b : ByteArray) : HM AV :=
  match op with
  | .eql => bool (a.toList == b.toList)
  | .neq => bool !(a.toList == b.toList)
  | .lss => bool (Op.bytesLess a.toList b.toList)
  | .geq => bool !(Op.bytesLess a.toList b.toList)
  | .add => .chk (decide (a.size + b.size ≤ 1099511627776)) (.ret (.v (.string (a ++ b))))
  | _ => .fail

def fbin (op : BinOp) (a b : Nat) : Option Nat :=
  match op with
  | .add => FloatKind.f64.format.add a b
  | .sub => FloatKind.f64.format.sub a b
  | .mul => FloatKind.f64.format.mul a b
  | _ => FloatKind.f64.format.div a b

def binF (op : BinOp) (a b : Nat) : HM AV :=
  match op with
  | .add | .sub | .mul | .quo => .chk (fbin op a b).isSome (.ret (.v (.float .f64 ((fbin op a b).getD 0))))
  | .eql => bool (FloatKind.f64.format.order a b == some .eq)
  | .neq => bool (FloatKind.f64.format.order a b != some .eq)
  | .lss => bool (FloatKind.f64.format.order a b == some .lt)
  | .leq => bool (FloatKind.f64.format.order a b == some .lt || FloatKind.f64.format.order a b == some .eq)
  | .gtr => bool (FloatKind.f64.format.order a b == some .gt)
  | .geq => bool (FloatKind.f64.format.order a b == some .gt || FloatKind.f64.format.order a b == some .eq)
  | _ => .fail

def one (x : Option AV) : HM AV := match x with
  | some y => .ret y
  | none => .fail

def binA (E : Env) (op : BinOp) (t : TypeId) (c : Bool) (x y : AV) : HM AV :=
  match x, y with
  | .v (.int k a), .v (.int k' b) => binI op k k' a b
  | .v (.float .f64 a), .v (.float .f64 b) => binF op a b
  | .v (.string a), .v (.string b) => binS op a b
  | x, y => match E.ty t with
    | none => .fail
    | some ti => match op with
      | .eql => (eqA ti.desc c x y).bind fun b => .ret (.v (.bool b))
      | .neq => (eqA ti.desc c x y).bind fun b => .ret (.v (.bool !b))
      | _ => .fail

def fieldOf (E : Env) (s : TypeId) (f : Nat) : Option (TypeId × Nat × Nat) :=
  match E.ty s with
  | some ti => match ti.desc with
    | .struct fs => fs[f]?
    | _ => none
  | none => none

/-- a place within memory, moved on by so many cells -/
def AV.moved (d : Nat) : AV → Option AV
  | .lptr id i j g => some (.lptr id i (j + d) g)
  | .gptr g j => some (.gptr g (j + d))
  | .iptr r j => some (.iptr r (j + d))
  | _ => none

def loadA (E : Env) (t : TypeId) (a : AV) : HM AV :=
  match E.ty t, a with
  | some ti, .lptr id i j g => .rd id fun b => if g = b.gen then (match b.ct with
      | .box r => if i = 0 then one (partA ti r j) else .fail
      | .sl t l => .chk (decide (i < l.length)) (one (partA ti (cellsT t (l.getD i (dfl t))) j))) else .fail
  | some ti, .iptr r j => one (partA ti r j)
  | some ti, .gptr g j => match E.glob g with
    | some r => one (partA ti r j)
    | none => .fail
  | _, _ => .fail

def freezeAll : List Nat → HM (List (Nat × Blk))
  | [] => .ret []
  | id :: r => .rd id fun b => (freezeAll r).bind fun l => .ret ((id, { b with frozen := true }) :: l)

def storeA (E : Env) (t : TypeId) (a x : AV) : HM Dl :=
  match E.ty t, a with
  | some ti, .lptr id i j g => .rd id fun b => if g = b.gen ∧ b.frozen = false then
    match b.ct with
    | .box r => match x.cells with
      | some cs => if i = 0 ∧ cs.all AV.isCell ∧ cs.length = ti.size ∧ j + cs.length ≤ r.length then
          .ret { x := .v (.tuple #[]), wr := [(id, { b with ct := .box (setRow r j cs) })] } else .fail
      | none => .fail
    | .sl u l => .chk (decide (i < l.length)) ((exportN 8 x).bind fun (y, ids) => (freezeAll ids).bind fun fz => match y.cells with
      | some cs => if cs.all AV.isCell ∧ cs.length = ti.size ∧ j + cs.length ≤ u.size ∧ ids.contains id = false then
          match decT E.toNames u (setRow (cellsT u (l.getD i (dfl u))) j cs) with
          | some (z, []) => .ret { x := .v (.tuple #[]), wr := fz ++ [(id, { b with ct := .sl u (l.set i z) })] }
          | _ => .fail
        else .fail
      | none => .fail)
    else .fail
  | _, _ => .fail

/-- the elements of a slice value, as they are now (none: the nil slice) -/
def sliceSeq : AV → HM (Option ((t : Ty) × List (Val t)))
  | .isl t l => .ret (some ⟨t, l⟩)
  | .nsl t l => .ret (some ⟨t, l⟩)
  | .v (.slice none 0 0) => .ret none
  | .lsl _ id i n g => .rd id fun b => if g = b.gen then (match b.ct with
    | .sl t l => .chk (decide (i + n ≤ l.length)) (.ret (some ⟨t, (l.drop i).take n⟩))
    | .box _ => .fail) else .fail
  | _ => .fail

def lenA (d : TD) (x : AV) : Option Nat :=
  match d, x with
  | .slice _, .isl _ l => some l.length
  | .slice _, .v (.slice none 0 0) => some 0
  | .slice _, .lsl _ _ _ n _ => some n
  | .str, .v (.string s) => some s.size
  | _, _ => none

def elemT (E : Env) (t : TypeId) : Option TyI :=
  match E.ty t with
  | some ti => match ti.desc with
    | .slice e => E.ty e
    | _ => none
  | none => none

/-- the greatest number of bytes that is appended to -/
def most : Nat := 1099511627776

def appendA (E : Env) (t : TypeId) (newId : Nat) (s x : AV) : HM Dl :=
  match elemT E t with
  | none => .fail
  | some ti => (sliceSeq x).bind fun
    | none => match s with
      | .lsl u id i n g => .ret { x := .lsl u id i n g }
      | .v (.slice none 0 0) => .ret { x := .v (.slice none 0 0) }
      | _ => .fail
    | some ⟨u, y⟩ => if u.size ≠ ti.size then .fail else match s with
      | .lsl t0 id i n g => .rd id fun b => if g = b.gen ∧ b.frozen = false ∧ t0.size = u.size then (match b.ct with
        | .sl u' l => if h : u = u' then
            .chk (decide (i + n = l.length)) (.chk (decide ((n + y.length) * (ti.bytes + 1) ≤ most))
              (.ret { x := .lsl u' id 0 (n + y.length) (g + 1), wr := [(id, { b with ct := .sl u' ((l.drop i).take n ++ castL h y), gen := g + 1 })] }))
          else .fail
        | .box _ => .fail) else .fail
      | .v (.slice none 0 0) => .chk (decide (y.length * (ti.bytes + 1) ≤ most))
          (.ret { x := .lsl u newId 0 y.length 0, wr := [(newId, { ct := .sl u y, gen := 0, frozen := false })] })
      | _ => .fail

/-- a bound of a slice expression; what is left out is d -/
def boundA (d : Nat) : Option AV → HM Nat
  | none => .ret d
  | some (.v (.int _ n)) => .chk (decide (0 ≤ n)) (.ret n.toNat)
  | _ => .fail

def sliceA (sz : Nat) (x : AV) (lo hi : Option AV) : HM AV :=
  match x with
    | .lsl t id i n g => if t.size = sz then (boundA 0 lo).bind fun l => (boundA n hi).bind fun h =>
        .chk (decide (l ≤ h)) (.chk (decide (h ≤ n)) (.ret (.lsl t id (i + l) (h - l) g))) else .fail
    | .isl t s => if t.size = sz then (boundA 0 lo).bind fun l => (boundA s.length hi).bind fun h =>
        .chk (decide (l ≤ h)) (.chk (decide (h ≤ s.length)) (.ret (.isl t ((s.drop l).take (h - l))))) else .fail
    | _ => .fail

def cutA (s : ByteArray) (lo hi : Option AV) : HM AV := (boundA 0 lo).bind fun l => (boundA s.size hi).bind fun h =>
        .chk (decide (l ≤ h)) (.chk (decide (h ≤ s.size)) (.ret (.v (.string (s.extract l h)))))

/-- x[:0:0]: a slice of no room -/
def emptyA (E : Env) (t : TypeId) (newId : Nat) (x : AV) (lo hi : Option AV) (m : AV) : HM Dl :=
  match E.ty t with
  | some ti => match ti.desc with
    | .slice e => match E.ty e with
      | some ei => match ei.ty, lo, hi, m with
        | some u, none, some (.v (.int _ a)), .v (.int _ b) => if a = 0 ∧ b = 0 then (match x with
          | .v (.slice none 0 0) => .ret { x := x }
          | .isl _ _ => .ret { x := .lsl u newId 0 0 0, wr := [(newId, { ct := .sl u [], gen := 0, frozen := false })] }
          | .lsl _ _ _ _ _ => .ret { x := .lsl u newId 0 0 0, wr := [(newId, { ct := .sl u [], gen := 0, frozen := false })] }
          | _ => .fail) else .fail
        | _, _, _, _ => .fail
      | none => .fail
    | _ => .fail
  | none => .fail

def indexAddrA (E : Env) (t : TypeId) (x ix : AV) : HM AV :=
  match ix.int?, E.ty t with
  | some (_, k), some ti => match ti.desc, x with
    | .slice e, .lsl u id i n g => match E.ty e with
      | some ei => if u.size = ei.size then .chk (decide (0 ≤ k)) (.chk (decide (k.toNat < n)) (.ret (.lptr id (i + k.toNat) 0 g))) else .fail
      | none => .fail
    | .slice e, .isl u l => match E.ty e with
      | some ei => if u.size = ei.size then .chk (decide (0 ≤ k)) (.chk (decide (k.toNat < l.length)) (.ret (.iptr (cellsT u (l.getD k.toNat (dfl u))) 0))) else .fail
      | none => .fail
    | .arr len e, x => match E.ty e with
      | some ei => if 0 ≤ k ∧ k.toNat < len ∧ 1 < len then one (x.moved (k.toNat * ei.size)) else .fail
      | none => .fail
    | _, _ => .fail
  | _, _ => .fail

def byteS (s : ByteArray) (i : Nat) : Int := (s.data.toList.getD i 0).toNat

def indexA (E : Env) (t : TypeId) (x ix : AV) : HM AV :=
  match ix.int?, E.ty t with
  | some (_, k), some ti => match ti.desc, x with
    | .str, .v (.string s) => .chk (decide (0 ≤ k)) (.chk (decide (k.toNat < s.size)) (int .u8 (byteS s k.toNat)))
    | .arr len e, .agg l => match E.ty e with
      | some ei => if 0 ≤ k ∧ k.toNat < len then one (partA ei l (k.toNat * ei.size)) else .fail
      | none => .fail
    | _, _ => .fail
  | _, _ => .fail

/-- a number of 64 bits, cut to a whole one -/
def ftoi (b : Nat) : Int := ((FloatKind.f64.decode b).toInt .zero).getD 0
def ftoiOK (k : IntKind) (b : Nat) : Bool := match (FloatKind.f64.decode b).toInt .zero with
  | some n => decide (k.min ≤ n) && decide (n ≤ k.max)
  | none => false

def convA (E : Env) (src dst : TypeId) (x : AV) : HM AV :=
  match E.ty src, E.ty dst with
  | some s, some d => match s.desc, d.desc, x with
    | .int _, .int k, .v (.int _ n) => int k (k.wrap n)
    | .int _, .float .f64, .v (.int _ n) => .ret (.v (.float .f64 (FloatKind.f64.nearest n)))
    | .float .f64, .int k, .v (.float .f64 b) => .chk (ftoiOK k b) (.ret (.v (.int k (ftoi b))))
    | .str, .str, .v (.string s) => .ret (.v (.string s))
    | _, _, _ => .fail
  | _, _ => .fail

def fold2 (f : Int → Int → Int) : AV → List AV → Option AV
  | x, [] => some x
  | .v (.int k a), .v (.int k' b) :: r => match sameK k k' with
    | true => fold2 f (.v (.int k (f a b))) r
    | false => none
  | _, _ => none

def copyA (E : Env) (t : TypeId) (dst src : AV) : HM Dl :=
  match elemT E t with
  | none => .fail
  | some ti => (sliceSeq src).bind fun
  | none => .fail
  | some ⟨u, y⟩ => if u.size ≠ ti.size then .fail else match dst with
    | .lsl t0 id i n g => .rd id fun b => if g = b.gen ∧ b.frozen = false ∧ t0.size = u.size then (match b.ct with
      | .sl u' l => if h : u = u' then .chk (decide (i + n ≤ l.length))
          (.ret { x := .v (.int .i64 (min y.length n : Nat)), wr := [(id, { b with ct := .sl u' (l.take i ++ (castL h y).take (min y.length n) ++ l.drop (i + min y.length n)) })] })
          else .fail
      | .box _ => .fail) else .fail
    | _ => .fail

def imax (a b : Int) : Int := if b > a then b else a
def imin (a b : Int) : Int := if b < a then b else a

def val (x : AV) : Dl := { x := x }

def builtinA (E : Env) (newId : Nat) (b : Builtin) (ts : List TypeId) (args : List AV) : HM Dl :=
  match b, ts, args with
  | .len, t :: _, [x] => match E.ty t with
    | some ti => match lenA ti.desc x with
      | some n => .ret (val (.v (.int .i64 n)))
      | none => .fail
    | none => .fail
  | .append, [t, t'], [s, x] => if t = t' then appendA E t newId s x else .fail
  | .copy, t :: _, [d, s] => copyA E t d s
  | .max, _, x :: r => (one (fold2 imax x r)).bind fun y => .ret (val y)
  | .min, _, x :: r => (one (fold2 imin x r)).bind fun y => .ret (val y)
  | _, _, _ => .fail

/-- of no references -/
def Ty.flat : Ty → Bool
  | .int _ | .bool | .str | .flt | .unit | .nat => true
  | .pair a b => a.flat && b.flat
  | .st a => a.flat
  | _ => false

/-- no reference, but into new blocks -/
def AV.flat1 (n : Nat) : AV → Bool
  | .v _ => true
  | .lsl _ id _ _ _ => Nat.ble n id
  | _ => false

def AV.flat (n : Nat) : AV → Bool
  | .tup l => l.all fun x => match x with
    | .agg m => m.all (AV.flat1 n)
    | x => x.flat1 n
  | .agg m => m.all (AV.flat1 n)
  | x => x.flat1 n

def Blk.flat (b : Blk) : Bool := match b.ct with
  | .sl t _ => t.flat
  | .box _ => false

/-- the nearest whole number; is the number one that it is known of? -/
def evenOK (x : Nat) : Bool := match FloatKind.f64.decode x with
  | .nan _ t => decide (FloatKind.f64.format.quiet t = t)
  | _ => true
def evenF (x : Nat) : Nat := match FloatKind.f64.decode x with
  | .nan _ _ => x
  | d => FloatKind.f64.encode (d.integral .even)

/-- what a function without a body answers -/
def extA (k : ExtK) (args : List AV) : HM Dl :=
  match k, args with
  | .bits, [.v (.float .f64 b)] => .ret { x := .v (.int .u64 (b : Int)) }
  | .frombits, [.v (.int .u64 n)] => .ret { x := .v (.float .f64 n.toNat) }
  | .even, [.v (.float .f64 x)] => .chk (evenOK x) (.ret { x := .v (.float .f64 (evenF x)) })
  | _, _ => .fail

/-- a call: what goes in is told as values; where its answer may bear references, what it was handed is frozen -/
def callA (E : Env) (f : FuncId) (newId : Nat) (args : List AV) : HM Dl :=
  match E.fn f with
  | none => match E.ext f with
    | some k => extA k args
    | none => .fail
  | some _ => (exportN.exportL 8 args).bind fun (as, ids) => .call f as newId fun r wr => match Nat.ble wr.length 8 with
    | false => .fail
    | true => match r.flat newId && wr.all (fun p => p.2.flat) with
      | true => .ret { x := r, wr := wr }
      | false => (freezeAll ids).bind fun fz => .ret { x := r, wr := fz ++ wr }

def oneZero (ti : TyI) : AV := match ti.desc.isAgg with
  | true => .agg ti.zero
  | false => ti.zero.headD .top

/-- an error with a place: is it? its place, its error -/
def Er.isAt : Er → Bool
  | .at _ _ => true
  | _ => false
def Er.pos : Er → Int
  | .at p _ => p
  | _ => 0
def Er.gix : Er → Nat
  | .at _ g => g
  | .s g => g
  | .nil => 0

def typeAssertA (E : Env) (x : AV) (t : TypeId) (ok : Bool) : HM AV :=
  match E.ty t with
  | none => .fail
  | some ti => match ti.desc with
    | .iface => .fail
    | _ => match x, ok with
      | .iface u y, true => if u = t then .ret (.tup [y, .v (.bool true)]) else .ret (.tup [oneZero ti, .v (.bool false)])
      | .iface u y, false => if u = t then .ret y else .fail
      | .v .nilIface, true => .ret (.tup [oneZero ti, .v (.bool false)])
      | .er e, true => if t = E.atT then .dec e.isAt (.ret (.tup [.iptr [.v (.int .i64 e.pos), .er (.s e.gix)] 0, .v (.bool true)])) (.ret (.tup [oneZero ti, .v (.bool false)])) else .fail
      | _, _ => .fail

def ofConst : Value → AV
  | .agg cs => .agg (cs.toList.map .v)
  | v => .v v

def aeval (env : List AV) : Operand → AV
  | .tmp t => env.getD t .top
  | .const v => ofConst v
  | .global g => .gptr g 0
  | .func f => .fn (.func f) [] []

/-- the elements of a slice that is written out, one after the other -/
def partsA (N : Names) (t : Ty) (i : Nat) : List (Nat × AV) → Option (List (Val t))
  | [] => some []
  | (j, x) :: r => match decA N t x, partsA N t (i + 1) r with
    | some y, some l => if j = i then some (y :: l) else none
    | _, _ => none

def TyI.part (ei : TyI) : Option Ty := match ei.ty with
  | some t => some t
  | none => ei.cty

def buildA (E : Env) (ei : TyI) (newId n : Nat) (parts : List (Nat × AV)) : HM Dl :=
  match ei.part with
  | none => .fail
  | some t => (exportN.exportL 8 (parts.map (·.2))).bind fun (ys, ids) => (freezeAll ids).bind fun fz =>
    match partsA E.toNames t 0 ((parts.map (·.1)).zip ys) with
    | some l => if l.length = n ∧ n * ei.size ≤ 16777216 then .ret { x := .lsl t newId 0 n 0, wr := fz ++ [(newId, { ct := .sl t l, gen := 0, frozen := false })] } else .fail
    | none => .fail

/-- one operation -/
def aop (E : Env) (ρ : Operand → AV) (newId : Nat) (o : Op) : HM Dl :=
  match o with
  | .move x | .assign x => .ret (val (ρ x))
  | .pick c a b => match ρ c with
    | .v (.bool t) => .dec t (.ret (val (ρ a))) (.ret (val (ρ b)))
    | _ => .fail
  | .alloc t => match E.ty t with
    | some ti => .ret { x := .lptr newId 0 0 0, wr := [(newId, { ct := .box ti.zero, gen := 0, frozen := false })] }
    | none => .fail
  | .box t x => match E.ty t, (ρ x).cells with
    | some ti, some cs => if cs.all AV.isCell ∧ cs.length = ti.size then .ret { x := .lptr newId 0 0 0, wr := [(newId, { ct := .box cs, gen := 0, frozen := false })] } else .fail
    | _, _ => .fail
  | .build t parts => match E.ty t with
    | some ti => match ti.desc with
      | .struct fs => match fillA (fun i => fs[i]?.map (·.2)) ti.zero (parts.toList.map fun (i, x) => (i, ρ x)) with
        | some cs => .ret (val (.agg cs))
        | none => .fail
      | .arr _ e => match E.ty e with
        | some ei => match fillA (fun i => some (i * ei.size, ei.size)) ti.zero (parts.toList.map fun (i, x) => (i, ρ x)) with
          | some cs => .ret (val (.agg cs))
          | none => .fail
        | none => .fail
      | _ => .fail
    | none => .fail
  | .buildSlice t n parts => match elemT E t with
    | some ei => buildA E ei newId n (parts.toList.map fun (i, x) => (i, ρ x))
    | none => .fail
  | .load t a => (loadA E t (ρ a)).bind fun x => .ret (val x)
  | .store t a x => storeA E t (ρ a) (ρ x)
  | .nilCheck x => match ρ x with
    | .lptr id i j g => .ret (val (.lptr id i j g))
    | .gptr g j => .ret (val (.gptr g j))
    | .iptr r j => .ret (val (.iptr r j))
    | .iface t y => .ret (val (.iface t y))
    | .fn (.func f) a c => .ret (val (.fn (.func f) a c))
    | _ => .fail
  | .binOp op t x y _ => (binA E op t (isConst x || isConst y) (ρ x) (ρ y)).bind fun x => .ret (val x)
  | .unOp op _ x => match op, ρ x with
    | .not, .v (.bool b) => .ret (val (.v (.bool !b)))
    | .neg, .v (.int k n) => .ret (val (.v (.int k (k.wrap (0 - n)))))
    | _, _ => .fail
  | .convert s d x => (convA E s d (ρ x)).bind fun x => .ret (val x)
  | .makeInterface t x => match E.ty t with
    | some ti => match ti.desc with
      | .iface => .fail
      | _ => .ret (val (.iface t (ρ x)))
    | none => .fail
  | .makeFunc f a c => .ret (val (.fn f (a.toList.map ρ) (c.toList.map ρ)))
  | .makeSlice t l c => match elemT E t, (ρ l).int?, (ρ c).int? with
    | some ei, some (_, n), some (_, m) => match ei.ty with
      | some u => .chk (decide (0 ≤ n)) (.chk (decide (n ≤ m)) (.chk (decide (m * (ei.bytes + 1) ≤ most))
        (.ret { x := .lsl u newId 0 n.toNat 0, wr := [(newId, { ct := .sl u (List.replicate n.toNat (dfl u)), gen := 0, frozen := false })] })))
      | none => .fail
    | _, _, _ => .fail
  | .slice t x lo hi mx => match mx with
    | some m => emptyA E t newId (ρ x) (lo.map ρ) (hi.map ρ) (ρ m)
    | none => match E.ty t with
      | some ti => match ti.desc with
        | .slice e => match E.ty e with
          | some ei => (sliceA ei.size (ρ x) (lo.map ρ) (hi.map ρ)).bind fun x => .ret (val x)
          | none => .fail
        | .str => match ρ x with
          | .v (.string s) => (cutA s (lo.map ρ) (hi.map ρ)).bind fun x => .ret (val x)
          | _ => .fail
        | _ => .fail
      | none => .fail
  | .fieldAddr s x f => match fieldOf E s f with
    | some fd => if fd.2.2 = 0 then .fail else (one ((ρ x).moved fd.2.1)).bind fun x => .ret (val x)
    | none => .fail
  | .field s x f => match fieldOf E s f, ρ x with
    | some fd, .agg l => match E.ty fd.1 with
      | some ti => (one (partA ti l fd.2.1)).bind fun x => .ret (val x)
      | none => .fail
    | _, _ => .fail
  | .indexAddr t x ix => (indexAddrA E t (ρ x) (ρ ix)).bind fun x => .ret (val x)
  | .index t x ix => (indexA E t (ρ x) (ρ ix)).bind fun x => .ret (val x)
  | .typeAssert x _ t ok => (typeAssertA E (ρ x) t ok).bind fun x => .ret (val x)
  | .extract t i => match ρ t with
    | .tup l => (one l[i]?).bind fun x => .ret (val x)
    | _ => .fail
  | .call c => match c.callee with
    | .builtin b => builtinA E newId b c.argTypes.toList (c.args.toList.map ρ)
    | .value f => match ρ f with
      | .fn (.func g) a cp => callA E g newId (a ++ c.args.toList.map ρ ++ cp)
      | _ => .fail
    | .invoke _ _ => .fail
  | _ => .fail

structure St where
  env : List AV
  heap : List (Option Blk)

def St.rd (s : St) (id : Nat) : Option Blk := match s.heap[id]? with
  | some b => b
  | none => none

def putAll (h : List (Option Blk)) : List (Nat × Blk) → List (Option Blk)
  | [] => h
  | (i, b) :: r => putAll (h.set i (some b)) r

def putD (env : List AV) (d : Option Tmp) (x : AV) : List AV :=
  match d with
  | some k => env.set k x
  | none => env

def St.app (s : St) (d : Option Tmp) (δ : Dl) : St := ⟨putD s.env d δ.x, putAll s.heap δ.wr⟩

/-- what an operation read and wrote of the heap -/
structure Fp where
  i : Nat
  rs : List Nat
  ws : List Nat

/-- how many new places an operation may take -/
def wid : Op → Nat
  | .call c => match c.callee with
    | .value _ => 8
    | _ => 1
  | _ => 1

/-- what is written is new, or was there -/
def touch {α : Type} (newId n : Nat) : List (Nat × Blk) → HM α → HM α
  | [], k => k
  | p :: r, k => match Nat.ble newId p.1 && Nat.blt p.1 (newId + n) with
    | true => touch newId n r k
    | false => .rd p.1 fun _ => touch newId n r k

/-- an operation under its guard: what it makes (none: it is left out) -/
def stepH (E : Env) (ops : List Oper) (newId : Nat) (o : Oper) (env : List AV) : HM (Option Dl) :=
  match o.guard with
  | none => (aop E (aeval env) newId o.op).bind fun δ => touch newId (wid o.op) δ.wr (.ret (some δ))
  | some (j, want) => match (ops[j]?).bind (·.dst) with
    | some d => match env.getD d .top with
      | .v (.bool b) => match want with
        | true => .dec b ((aop E (aeval env) newId o.op).bind fun δ => touch newId (wid o.op) δ.wr (.ret (some δ))) (.ret none)
        | false => .dec b (.ret none) ((aop E (aeval env) newId o.op).bind fun δ => touch newId (wid o.op) δ.wr (.ret (some δ)))
      | .v (.tuple _) => .ret none
      | _ => .fail
    | none => .fail

/-- (what is left out makes no value) -/
def dlOf : Option Dl → Dl
  | some δ => δ
  | none => { x := .v (.tuple #[]) }

def stepA (E : Env) (call : CallF) (ops : List Oper) (newId i : Nat) (o : Oper) (s : St) : Option (St × Fp) :=
  match (stepH E ops newId o s.env).run call s.rd with
  | some (δ, l) => some (s.app o.dst (dlOf δ), ⟨i, l, (dlOf δ).wr.map (·.1)⟩)
  | none => none

def consF (f : Fp) (l : List Fp) : List Fp := match f.rs, f.ws with
  | [], [] => l
  | _, _ => f :: l

def runOps (E : Env) (call : CallF) (ops : List Oper) : Nat → Nat → List Oper → St → Option (St × List Fp)
  | _, _, [], s => some (s, [])
  | n, i, o :: r, s => match stepA E call ops n i o s with
    | some (s', f) => match runOps E call ops (n + wid o.op) (i + 1) r s' with
      | some (t, l) => some (t, consF f l)
      | none => none
    | none => none

/-- how many new places a region may take -/
def widL : List Oper → Nat
  | [] => 0
  | o :: r => wid o.op + widL r

/-- what is to be done ahead of an operation, by its edges (a bit for each) -/
def maskOf (acc : List Nat) : List Edge → Nat
  | [] => 0
  | e :: r => match Region.binds .any e with
    | true => acc.getD e.on 0 ||| (1 <<< e.on) ||| maskOf acc r
    | false => maskOf acc r

def masks : List Oper → List Nat → List Nat
  | [], acc => acc
  | o :: r, acc => masks r (acc ++ [maskOf acc o.after.toList])

def meets (a b : List Nat) : Bool := a.any fun x => b.contains x

/-- what is left open by the order does not hang on it -/
def fpsOK (ms : List Nat) : List Fp → Bool
  | [] => true
  | f :: r => (r.all fun g => !(meets f.ws g.rs || meets f.ws g.ws || meets f.rs g.ws) || (ms.getD g.i 0).testBit f.i) && fpsOK ms r

/-- nothings at the end fall away -/
def trim : List (Option Blk) → List (Option Blk)
  | [] => []
  | x :: r => match x, trim r with
    | none, [] => []
    | x, r' => x :: r'

inductive AX where
  | normal
  | exit (id : Nat)
  | ret
  deriving DecidableEq

def nloops : Code → Nat
  | .seq a b => nloops a + nloops b
  | .cond _ a b => nloops a + nloops b
  | .block _ c => nloops c
  | .loop c => nloops c + 1
  | .scope c => nloops c
  | _ => 0

def loopsOf : Code → List Code
  | .seq a b => loopsOf a ++ loopsOf b
  | .cond _ a b => loopsOf a ++ loopsOf b
  | .block _ c => loopsOf c
  | .loop c => c :: loopsOf c
  | .scope c => loopsOf c
  | _ => []

def regionA (E : Env) (call : CallF) (ops : List Oper) (draw : Bool) (s : St) : Option (AX × St) :=
  match runOps E call ops s.heap.length 0 ops ⟨s.env, s.heap ++ List.replicate (widL ops) none⟩ with
  | some (s', l) => match draw, fpsOK (masks ops []) l with
    | true, false => none
    | _, _ => some (.normal, ⟨s'.env, trim s'.heap⟩)
  | none => none

def run (E : Env) (call : CallF) (loop : Nat → St → Option (AX × St)) : Nat → Code → St → Option (AX × St)
  | _, .skip, s => some (.normal, s)
  | _, .region _ ops draw, s => regionA E call ops.toList draw s
  | k, .seq a b, s => match run E call loop k a s with
    | some (.normal, s') => run E call loop (k + nloops a) b s'
    | r => r
  | k, .cond c a b, s => match aeval s.env c with
    | .v (.bool t) => match t with
      | true => run E call loop k a s
      | false => run E call loop (k + nloops a) b s
    | _ => none
  | k, .block id c, s => match run E call loop k c s with
    | some (.exit id', s') => if id' = id then some (.normal, s') else some (.exit id', s')
    | r => r
  | k, .scope c, s => run E call loop k c s
  | _, .label _, s => some (.normal, s)
  | k, .loop _, s => loop k s
  | _, .exit id, s => some (.exit id, s)
  | _, .ret, s => some (.ret, s)
  | _, _, _ => none

/-! The same, handed on: what comes behind is a function of what is made ('cond' and 'bind' stay in sight). -/

abbrev CallK (R : Type) := FuncId → List AV → Nat → (AV → List (Nat × Blk) → Option R) → Option R

def HM.runK {α R : Type} (callK : CallK R) (h : Nat → Option Blk) : HM α → List Nat → (α → List Nat → Option R) → Option R
  | .ret a, l, k => k a l
  | .rd id f, l, k => match h id with
    | some b => (f b).runK callK h (l ++ [id]) k
    | none => none
  | .chk b f, l, k => cond b (f.runK callK h l k) none
  | .dec b x y, l, k => cond b (x.runK callK h l k) (y.runK callK h l k)
  | .call f as n g, l, k => callK f as n fun r wr => (g r wr).runK callK h l k
  | .fail, _, _ => none

/-- a truth that has been asked for is known from there on -/
def setB (env : List AV) (d : Nat) (b : Bool) : List AV := env.set d (.v (.bool b))

def doneK {R : Type} (E : Env) (callK : CallK R) (newId : Nat) (o : Oper) (s : St) (k : St → List Nat → List Nat → Option R) : Option R :=
  ((aop E (aeval s.env) newId o.op).bind fun δ => touch newId (wid o.op) δ.wr (.ret δ)).runK callK s.rd [] fun δ rs => k (s.app o.dst δ) rs (δ.wr.map (·.1))

def skipK {R : Type} (o : Oper) (s : St) (k : St → List Nat → List Nat → Option R) : Option R := k (s.app o.dst (dlOf none)) [] []

def stepK {R : Type} (E : Env) (callK : CallK R) (ops : List Oper) (newId : Nat) (o : Oper) (s : St) (k : St → List Nat → List Nat → Option R) : Option R :=
  match o.guard with
  | none => doneK E callK newId o s k
  | some (j, want) => match (ops[j]?).bind (·.dst) with
    | some d => match s.env.getD d .top with
      | .v (.bool b) => match want with
        | true => cond b (doneK E callK newId o ⟨setB s.env d true, s.heap⟩ k) (skipK o ⟨setB s.env d false, s.heap⟩ k)
        | false => cond b (skipK o ⟨setB s.env d true, s.heap⟩ k) (doneK E callK newId o ⟨setB s.env d false, s.heap⟩ k)
      | .v (.tuple _) => skipK o s k
      | _ => none
    | none => none

def runOpsK {R : Type} (E : Env) (callK : CallK R) (ops : List Oper) : Nat → Nat → List Oper → St → List Fp → (St → List Fp → Option R) → Option R
  | _, _, [], s, l, k => k s l
  | n, i, o :: r, s, l, k => stepK E callK ops n o s fun s' rs ws => runOpsK E callK ops (n + wid o.op) (i + 1) r s' (l ++ consF ⟨i, rs, ws⟩ []) k

def regionK {R : Type} (E : Env) (callK : CallK R) (ops : List Oper) (draw : Bool) (s : St) (k : AX → St → Option R) : Option R :=
  runOpsK E callK ops s.heap.length 0 ops ⟨s.env, s.heap ++ List.replicate (widL ops) none⟩ [] fun s' l =>
    match draw, fpsOK (masks ops []) l with
    | true, false => none
    | _, _ => k .normal ⟨s'.env, trim s'.heap⟩

def runK {R : Type} (E : Env) (callK : CallK R) (loopK : Nat → St → (AX → St → Option R) → Option R) :
    Nat → Code → St → (AX → St → Option R) → Option R
  | _, .skip, s, k => k .normal s
  | _, .region _ ops draw, s, k => regionK E callK ops.toList draw s k
  | n, .seq a b, s, k => runK E callK loopK n a s fun e s' => match e with
    | .normal => runK E callK loopK (n + nloops a) b s' k
    | e => k e s'
  | n, .cond c a b, s, k => match aeval s.env c with
    | .v (.bool t) => match c with
      | .tmp d => cond t (runK E callK loopK n a ⟨setB s.env d true, s.heap⟩ k) (runK E callK loopK (n + nloops a) b ⟨setB s.env d false, s.heap⟩ k)
      | _ => cond t (runK E callK loopK n a s k) (runK E callK loopK (n + nloops a) b s k)
    | _ => none
  | n, .block id c, s, k => runK E callK loopK n c s fun e s' => match e with
    | .exit id' => if id' = id then k .normal s' else k (.exit id') s'
    | e => k e s'
  | n, .scope c, s, k => runK E callK loopK n c s k
  | _, .label _, s, k => k .normal s
  | n, .loop _, s, k => loopK n s k
  | _, .exit id, s, k => k (.exit id) s
  | _, .ret, s, k => k .ret s
  | _, _, _, _ => none

end Go.Eng
