/-
  The abstract machine, part 2: operations, regions, code.
-/
import Derived.Test.YtnbpgehpjhifgaaDoorLxEngA
namespace Go.Eng

def isConst : Operand → Bool
  | .const _ => true
  | _ => false

/-- does it stand for one cell? -/
def AV.isCell : AV → Bool
  | .v (.agg _) | .v (.tuple _) => false
  | .agg _ | .tup _ | .top => false
  | _ => true

def Er.isNil : Er → Bool
  | .nil => true
  | _ => false

/-- may two errors be held against each other? (two nils, or two with places, may not) -/
def okEq : Er → Er → Bool
  | .nil, .nil => false
  | .at _ _, .at _ _ => false
  | _, _ => true

/-- '==' of two values (where it is known) -/
def eqA (d : TD) (z c : Bool) (x y : AV) : HM Bool :=
  match d, x, y with
  | .bool, .v (.bool a), .v (.bool b) => .ret (a == b)
  | .iface, .v .nilIface, .v .nilIface => if c then .ret true else .fail
  | .iface, .v .nilIface, .iface _ _ => .ret false
  | .iface, .iface _ _, .v .nilIface => .ret false
  | .iface, .er e, .v .nilIface => if c then .ret e.isNil else .fail
  | .iface, .v .nilIface, .er e => if c then .ret e.isNil else .fail
  | .iface, .er e, .er e' => .chk (okEq e e') (.ret (decide (e = e')))
  | .ptr _, .v (.pointer none), .v (.pointer none) => .ret true
  | .ptr _, .v (.pointer none), .lptr _ _ _ _ => .ret false
  | .ptr _, .lptr _ _ _ _, .v (.pointer none) => .ret false
  | .ptr _, .v (.pointer none), .iptr _ _ => .ret false
  | .ptr _, .iptr _ _, .v (.pointer none) => .ret false
  | .ptr _, .v (.pointer none), .hd _ x => .ret x.isNone
  | .ptr _, .hd _ x, .v (.pointer none) => .ret x.isNone
  | .ptr _, .hd k x, .hd k' y => if z = true ∧ k = k' then .ret (decide (x = y)) else .fail
  | .slice _, .nsl _ _, .v (.slice none 0 0) => .ret false
  | .slice _, .v (.slice none 0 0), .v (.slice none 0 0) => .ret true
  | _, _, _ => .fail

def bitsI (op : BinOp) (k : IntKind) (a b : Int) : Int :=
  k.wrap (match op with
    | .and => BitVec.ofInt k.bits a &&& BitVec.ofInt k.bits b
    | .or => BitVec.ofInt k.bits a ||| BitVec.ofInt k.bits b
    | .xor => BitVec.ofInt k.bits a ^^^ BitVec.ofInt k.bits b
    | _ => BitVec.ofInt k.bits a &&& ~~~BitVec.ofInt k.bits b).toNat

def shlI (k : IntKind) (a b : Int) : Int := k.wrap (a * 2 ^ (min b.toNat k.bits))
def shrI (k : IntKind) (a b : Int) : Int := a.fdiv (2 ^ (min b.toNat k.bits))

def int (k : IntKind) (n : Int) : HM AV := .ret (.v (.int k n))
def bool (b : Bool) : HM AV := .ret (.v (.bool b))

/-- an operation of two whole numbers -/
def binI (op : BinOp) (k k' : IntKind) (a b : Int) : HM AV :=
  match op with
  | .shl => .chk (decide (0 ≤ b)) (int k (shlI k a b))
  | .shr => .chk (decide (0 ≤ b)) (int k (shrI k a b))
  | op => match sameK k k' with
    | false => .fail
    | true => match op with
      | .add => int k (k.wrap (a + b))
      | .sub => int k (k.wrap (a - b))
      | .mul => int k (k.wrap (a * b))
      | .quo => .chk (decide (b ≠ 0)) (int k (k.wrap (a.tdiv b)))
      | .rem => .chk (decide (b ≠ 0)) (int k (a.tmod b))
      | .eql => bool (decide (a = b))
      | .neq => bool (decide (a ≠ b))
      | .lss => bool (decide (a < b))
      | .leq => bool (decide (a ≤ b))
      | .gtr => bool (decide (b < a))
      | .geq => bool (decide (b ≤ a))
      | op => int k (bitsI op k a b)

def binS (op : BinOp) (a b : ByteArray) : HM AV :=
  match op with
  | .eql => bool (a.toList == b.toList)
  | .neq => bool !(a.toList == b.toList)
  | .lss => bool (Op.bytesLess a.toList b.toList)
  | .geq => bool !(Op.bytesLess a.toList b.toList)
  | .add => .chk (decide (a.size + b.size ≤ 1099511627776)) (.ret (.v (.string (a ++ b))))
  | _ => .fail

def fbin (op : BinOp) (a b : Nat) : Option Nat :=
  match op with
  | .add => FloatKind.f64.format.add a b
  | .sub => FloatKind.f64.format.sub a b
  | .mul => FloatKind.f64.format.mul a b
  | _ => FloatKind.f64.format.div a b

def binF (op : BinOp) (a b : Nat) : HM AV :=
  match op with
  | .add | .sub | .mul | .quo => .chk (fbin op a b).isSome (.ret (.v (.float .f64 ((fbin op a b).getD 0))))
  | .eql => bool (FloatKind.f64.format.order a b == some .eq)
  | .neq => bool (FloatKind.f64.format.order a b != some .eq)
  | .lss => bool (FloatKind.f64.format.order a b == some .lt)
  | .leq => bool (FloatKind.f64.format.order a b == some .lt || FloatKind.f64.format.order a b == some .eq)
  | .gtr => bool (FloatKind.f64.format.order a b == some .gt)
  | .geq => bool (FloatKind.f64.format.order a b == some .gt || FloatKind.f64.format.order a b == some .eq)
  | _ => .fail

def one (x : Option AV) : HM AV := match x with
  | some y => .ret y
  | none => .fail

/-- does it point to something of some cells? -/
def someE (E : Env) : TD → Bool
  | .ptr e => match E.ty e with
    | some ei => decide (0 < ei.size)
    | none => false
  | _ => false

def binA (E : Env) (op : BinOp) (t : TypeId) (c : Bool) (x y : AV) : HM AV :=
  match x, y with
  | .v (.int k a), .v (.int k' b) => binI op k k' a b
  | .v (.float .f64 a), .v (.float .f64 b) => binF op a b
  | .v (.string a), .v (.string b) => binS op a b
  | x, y => match E.ty t with
    | none => .fail
    | some ti => match op with
      | .eql => (eqA ti.desc (someE E ti.desc) c x y).bind fun b => .ret (.v (.bool b))
      | .neq => (eqA ti.desc (someE E ti.desc) c x y).bind fun b => .ret (.v (.bool !b))
      | _ => .fail

def fieldOf (E : Env) (s : TypeId) (f : Nat) : Option (TypeId × Nat × Nat) :=
  match E.ty s with
  | some ti => match ti.desc with
    | .struct fs => fs[f]?
    | _ => none
  | none => none

/-- a place within memory, moved on by so many cells -/
def AV.moved (d : Nat) : AV → Option AV
  | .lptr id i j g => some (.lptr id i (j + d) g)
  | .gptr g j => some (.gptr g (j + d))
  | .iptr r j => some (.iptr r (j + d))
  | _ => none

def loadA (E : Env) (t : TypeId) (a : AV) : HM AV :=
  match E.ty t, a with
  | some ti, .lptr id i j g => .rd id fun b => if g = b.gen then (match b.ct with
      | .box r => if i = 0 then one (partA ti r j) else .fail
      | .sl t l => .chk (decide (i < l.length)) (one (partA ti (cellsT t (l.getD i (dfl t))) j))
      | .tab _ _ _ _ => .fail) else .fail
  | some ti, .iptr r j => one (partA ti r j)
  | some ti, .gptr g j => match E.glob g with
    | some r => one (partA ti r j)
    | none => .fail
  | _, _ => .fail

def freezeAll : List Ref → HM (List (Ref × Blk))
  | [] => .ret []
  | id :: r => match id with
    | .l id => .rd (.l id) fun b => (freezeAll r).bind fun l => .ret ((.l id, { b with frozen := true }) :: l)
    | .o _ _ _ => .fail

/-! Objects: the variables of a kind, all in one block. -/

/-- whose slices are stale -/
def stale (st : List (Nat × Nat)) (q : Nat) : Bool := st.any fun p => Nat.beq p.1 q

/-- the cells of an object's variable -/
def rowO (k i : Nat) (st : Nat → Bool) (gs : List Nat) : (cs : List Cell) → Nat → Val (rowsTy cs) → List AV
  | [], _, _ => []
  | .d t :: r, q, x => cellsT t x.1 ++ rowO k i st gs r q x.2
  | .sl t :: r, q, x => (match st q with
    | true => .top
    | false => .lsl t (.o k i q) 0 (List.length x.1) (gs.getD q 0)) :: rowO k i st gs r (q + 1) x.2

/-- a slice of an object's own -/
def slO (want : Nat) : (cs : List Cell) → Nat → Val (rowsTy cs) → Option ((t : Ty) × List (Val t))
  | [], _, _ => none
  | .d _ :: r, q, x => slO want r q x.2
  | .sl t :: r, q, x => match Nat.beq q want with
    | true => some ⟨t, x.1⟩
    | false => slO want r (q + 1) x.2

def setO (want : Nat) (u : Ty) (y : List (Val u)) : (cs : List Cell) → Nat → Val (rowsTy cs) → Val (rowsTy cs)
  | [], _, x => x
  | .d _ :: r, q, x => (x.1, setO want u y r q x.2)
  | .sl t :: r, q, x => match Nat.beq q want with
    | true => (if h : u = t then castL h y else x.1, x.2)
    | false => (x.1, setO want u y r (q + 1) x.2)

/-- what is known of an object's blocks -/
def viewO (k i : Nat) (cs : List Cell) (l : List (Val (rowsTy cs))) (st : List (Nat × Nat)) (gs : List Nat) : Nat → Option Blk
  | 0 => some { ct := .box (rowO k i (stale st) gs cs 1 (l.getD i (dfl (rowsTy cs)))), gen := 0, frozen := false }
  | q + 1 => match stale st (q + 1) with
    | true => none
    | false => match slO (q + 1) cs 1 (l.getD i (dfl (rowsTy cs))) with
      | some ⟨t, y⟩ => some { ct := .sl t y, gen := gs.getD (q + 1) 0, frozen := false }
      | none => none

def rdH (h : List (Option Blk)) : Ref → Option Blk
  | .l id => match h[id]? with
    | some b => b
    | none => none
  | .o k i q => match h[k]? with
    | some (some b) => match b.ct with
      | .tab cs l st gs => viewO k i cs l st gs q
      | _ => none
    | _ => none

def putH (h : List (Option Blk)) : Ref → Blk → List (Option Blk)
  | .l id, b => h.set id (some b)
  | .o k i q, b => match h[k]? with
    | some (some tb) => match tb.ct, b.ct with
      | .tab cs l st gs, .sl t y => h.set k (some { tb with ct := .tab cs (l.set i (setO q t y cs 1 (l.getD i (dfl (rowsTy cs))))) st gs })
      | _, _ => h
    | _ => h

/-- where a slice comes from that goes over to an object -/
inductive Src where
  | nil
  | loc (id i : Nat) (t : Ty) (gen : Nat)
  | own (i : Nat)

/-- a slice goes over to an object -/
def takeO (k i q : Nat) (t : Ty) : AV → HM (List (Val t) × Src)
  | .v (.slice none 0 0) => .ret ([], .nil)
  | .lsl _ (.l id) i0 n g => .rd (.l id) fun b => if g = b.gen ∧ b.frozen = false then (match b.ct with
    | .sl t' l => if h : t' = t then .chk (decide (i0 + n ≤ l.length)) (.ret (((castL h l).drop i0).take n, .loc id i0 t b.gen)) else .fail
    | _ => .fail) else .fail
  | .lsl _ (.o k' i' q') i0 n g => if k' = k ∧ q' = q then .rd (.o k' i' q') fun b => if g = b.gen then (match b.ct with
    | .sl t' l => if h : t' = t then .chk (decide (i' = i)) (.chk (decide (i0 + n ≤ l.length)) (.ret (((castL h l).drop i0).take n, .own i0))) else .fail
    | _ => .fail) else .fail else .fail
  | _ => .fail

/-- cells laid into an object's row, from place j on: the row; what was handed out; the slices that went over -/
def storeO (N : Names) (k i : Nat) : (cs : List Cell) → Nat → Val (rowsTy cs) → Nat → List AV → HM (Val (rowsTy cs) × List Ref × List (Nat × Src))
  | [], _, x, _, new => match new with
    | [] => .ret (x, [], [])
    | _ => .fail
  | .d t :: r, q, x, j, new => match new with
    | [] => .ret (x, [], [])
    | _ => match Nat.ble t.size j with
      | true => (storeO N k i r q x.2 (j - t.size) new).bind fun (z, f, u) => .ret ((x.1, z), f, u)
      | false => (exportN.exportL 8 (new.take (t.size - j))).bind fun (ys, f) => match decT N t (setRow (cellsT t x.1) j ys) with
        | some (y, []) => (storeO N k i r q x.2 0 (new.drop (t.size - j))).bind fun (z, f', u) => .ret ((y, z), f ++ f', u)
        | _ => .fail
  | .sl t :: r, q, x, j, new => match new with
    | [] => .ret (x, [], [])
    | y :: new' => match j with
      | j + 1 => (storeO N k i r (q + 1) x.2 j new).bind fun (z, f, u) => .ret ((x.1, z), f, u)
      | 0 => (takeO k i q t y).bind fun (l, s) => (storeO N k i r (q + 1) x.2 0 new').bind fun (z, f, u) => .ret ((l, z), f, (q, s) :: u)

/-- the blocks that went over are the call's own no more -/
def goneA : List (Nat × Src) → List (Ref × Blk)
  | [] => []
  | (_, .loc id _ t g) :: r => (.l id, { ct := .sl t [], gen := g + 1, frozen := false }) :: goneA r
  | _ :: r => goneA r

def srcIds : List (Nat × Src) → List Nat
  | [] => []
  | (_, .loc id _ _ _) :: r => id :: srcIds r
  | _ :: r => srcIds r

def nodupN : List Nat → Bool
  | [] => true
  | x :: r => !(r.any (Nat.beq x)) && nodupN r

/-- what was taken away of them is back -/
def backA (i : Nat) (u : List Nat) : List (Nat × Nat) → HM (List (Nat × Nat))
  | [] => .ret []
  | p :: r => match u.any (Nat.beq p.1) with
    | true => .chk (decide (p.2 = i)) (backA i u r)
    | false => (backA i u r).bind fun l => .ret (p :: l)

/-- slices that went over are turned -/
def turnG : List Nat → List Nat → List Nat
  | [], gs => gs
  | q :: r, gs => turnG r (gs.set q (gs.getD q 0 + 2))

/-- of what has a nothing -/
def Ty.zb : Ty → Bool
  | .pair a b => a.zb && b.zb
  | .st a => a.zb
  | .ref _ | .clo _ _ => false
  | _ => true

def Cell.zb : Cell → Bool
  | .d t => t.zb
  | .sl _ => true

/-- the numbers of the slices -/
def ownQs : List Cell → Nat → List Nat
  | [], _ => []
  | .d _ :: r, q => ownQs r q
  | .sl _ :: r, q => q :: ownQs r (q + 1)

/-- into an object's variable -/
def storeOA (E : Env) (ti : TyI) (k i j : Nat) (x : AV) : HM Dl := .rd (.l k) fun b => match b.ct with
  | .tab cs l st gs => match x.cells with
    | some new => if new.all AV.isCell ∧ new.length = ti.size then
        (storeO E.toNames k i cs 1 (l.getD i (dfl (rowsTy cs))) j new).bind fun (row, f, u) => (freezeAll f).bind fun fz => (backA i (u.map (·.1)) st).bind fun st' =>
          if nodupN (srcIds u) ∧ (srcIds u).all (fun id => !(f.contains (.l id))) ∧ (u.map (·.1)).all (fun q => Nat.blt q gs.length) then
            .ret { x := .v (.tuple #[]), wr := fz ++ goneA u ++ [(.l k, { b with ct := .tab cs (l.set i row) st' (turnG (u.map (·.1)) gs) })] } else .fail
      else .fail
    | none => .fail
  | _ => .fail

/-- an object more -/
def newOA (E : Env) (ti : TyI) (k : Nat) (cells : List AV) : HM Dl := .rd (.l k) fun b => match b.ct with
  | .tab cs l st gs => if cells.all AV.isCell ∧ cells.length = ti.size then
      (storeO E.toNames k l.length cs 1 (dfl (rowsTy cs)) 0 cells).bind fun (row, f, u) => (freezeAll f).bind fun fz =>
        if nodupN (srcIds u) ∧ (srcIds u).all (fun id => !(f.contains (.l id))) ∧ (ownQs cs 1).all (fun q => (u.map (·.1)).any (Nat.beq q)) ∧ cs.all Cell.zb ∧ st.isEmpty ∧ cells.length = (rowsTy cs).size then
          .ret { x := .hd k (some l.length), wr := fz ++ goneA u ++ [(.l k, { b with ct := .tab cs (l ++ [row]) st gs })] } else .fail
    else .fail
  | _ => .fail

def storeA (E : Env) (t : TypeId) (a x : AV) : HM Dl :=
  match E.ty t, a with
  | some ti, .lptr (.o k io 0) i j _ => if i = 0 then storeOA E ti k io j x else .fail
  | some ti, .lptr id i j g => .rd id fun b => if g = b.gen ∧ b.frozen = false then
    match b.ct with
    | .tab _ _ _ _ => .fail
    | .box r => match x.cells with
      | some cs => if i = 0 ∧ cs.all AV.isCell ∧ cs.length = ti.size ∧ j + cs.length ≤ r.length then
          .ret { x := .v (.tuple #[]), wr := [(id, { b with ct := .box (setRow r j cs) })] } else .fail
      | none => .fail
    | .sl u l => .chk (decide (i < l.length)) ((exportN 8 x).bind fun (y, ids) => (freezeAll ids).bind fun fz => match y.cells with
      | some cs => if cs.all AV.isCell ∧ cs.length = ti.size ∧ j + cs.length ≤ u.size ∧ ids.contains id = false then
          match decT E.toNames u (setRow (cellsT u (l.getD i (dfl u))) j cs) with
          | some (z, []) => .ret { x := .v (.tuple #[]), wr := fz ++ [(id, { b with ct := .sl u (l.set i z) })] }
          | _ => .fail
        else .fail
      | none => .fail)
    else .fail
  | _, _ => .fail

/-- the elements of a slice value, as they are now (none: the nil slice) -/
def sliceSeq : AV → HM (Option ((t : Ty) × List (Val t)))
  | .isl t l => .ret (some ⟨t, l⟩)
  | .nsl t l => .ret (some ⟨t, l⟩)
  | .v (.slice none 0 0) => .ret none
  | .lsl _ id i n g => .rd id fun b => if g = b.gen then (match b.ct with
    | .sl t l => .chk (decide (i + n ≤ l.length)) (.ret (some ⟨t, (l.drop i).take n⟩))
    | _ => .fail) else .fail
  | _ => .fail

def lenA (d : TD) (x : AV) : Option Nat :=
  match d, x with
  | .slice _, .isl _ l => some l.length
  | .slice _, .v (.slice none 0 0) => some 0
  | .slice _, .lsl _ _ _ n _ => some n
  | .str, .v (.string s) => some s.size
  | _, _ => none

def elemT (E : Env) (t : TypeId) : Option TyI :=
  match E.ty t with
  | some ti => match ti.desc with
    | .slice e => E.ty e
    | _ => none
  | none => none

/-- the greatest number of bytes that is appended to -/
def most : Nat := 1099511627776

def appendA (E : Env) (t : TypeId) (newId : Nat) (s x : AV) : HM Dl :=
  match elemT E t with
  | none => .fail
  | some ti => (sliceSeq x).bind fun
    | none => match s with
      | .lsl u id i n g => .ret { x := .lsl u id i n g }
      | .v (.slice none 0 0) => .ret { x := .v (.slice none 0 0) }
      | _ => .fail
    | some ⟨u, y⟩ => if u.size ≠ ti.size then .fail else match s with
      | .lsl t0 (.l id) i n g => .rd (.l id) fun b => if g = b.gen ∧ b.frozen = false ∧ t0.size = u.size then (match b.ct with
        | .sl u' l => if h : u = u' then
            .chk (decide (i + n = l.length)) (.chk (decide ((n + y.length) * (ti.bytes + 1) ≤ most))
              (.ret { x := .lsl u' (.l id) 0 (n + y.length) (g + 1), wr := [(.l id, { b with ct := .sl u' ((l.drop i).take n ++ castL h y), gen := g + 1 })] }))
          else .fail
        | _ => .fail) else .fail
      | .lsl t0 (.o k io q) i n g => .rd (.o k io q) fun b => .rd (.l k) fun tb => if g = b.gen ∧ t0.size = u.size then (match b.ct, tb.ct with
        | .sl u' l, .tab cs rows st gs => if h : u = u' then
            .chk (decide (i + n = l.length)) (.chk (decide ((n + y.length) * (ti.bytes + 1) ≤ most))
              (.ret { x := .lsl u' (.l newId) 0 (n + y.length) 1, wr := [(.l k, { tb with ct := .tab cs rows ((q, io) :: st) gs }), (.l newId, { ct := .sl u' ((l.drop i).take n ++ castL h y), gen := 1, frozen := false })] }))
          else .fail
        | _, _ => .fail) else .fail
      | .v (.slice none 0 0) => .chk (decide (y.length * (ti.bytes + 1) ≤ most))
          (.ret { x := .lsl u (.l newId) 0 y.length 0, wr := [(.l newId, { ct := .sl u y, gen := 0, frozen := false })] })
      | _ => .fail

/-- a bound of a slice expression; what is left out is d -/
def boundA (d : Nat) : Option AV → HM Nat
  | none => .ret d
  | some (.v (.int _ n)) => .chk (decide (0 ≤ n)) (.ret n.toNat)
  | _ => .fail

def sliceA (sz : Nat) (x : AV) (lo hi : Option AV) : HM AV :=
  match x with
    | .lsl t id i n g => if t.size = sz then (boundA 0 lo).bind fun l => (boundA n hi).bind fun h =>
        .chk (decide (l ≤ h)) (.chk (decide (h ≤ n)) (.ret (.lsl t id (i + l) (h - l) g))) else .fail
    | .isl t s => if t.size = sz then (boundA 0 lo).bind fun l => (boundA s.length hi).bind fun h =>
        .chk (decide (l ≤ h)) (.chk (decide (h ≤ s.length)) (.ret (.isl t ((s.drop l).take (h - l))))) else .fail
    | _ => .fail

def cutA (s : ByteArray) (lo hi : Option AV) : HM AV := (boundA 0 lo).bind fun l => (boundA s.size hi).bind fun h =>
        .chk (decide (l ≤ h)) (.chk (decide (h ≤ s.size)) (.ret (.v (.string (s.extract l h)))))

/-- x[:0:0]: a slice of no room -/
def emptyA (E : Env) (t : TypeId) (newId : Nat) (x : AV) (lo hi : Option AV) (m : AV) : HM Dl :=
  match E.ty t with
  | some ti => match ti.desc with
    | .slice e => match E.ty e with
      | some ei => match ei.ty, lo, hi, m with
        | some u, none, some (.v (.int _ a)), .v (.int _ b) => if a = 0 ∧ b = 0 then (match x with
          | .v (.slice none 0 0) => .ret { x := x }
          | .isl _ _ => .ret { x := .lsl u (.l newId) 0 0 0, wr := [(.l newId, { ct := .sl u [], gen := 0, frozen := false })] }
          | .lsl _ _ _ _ _ => .ret { x := .lsl u (.l newId) 0 0 0, wr := [(.l newId, { ct := .sl u [], gen := 0, frozen := false })] }
          | _ => .fail) else .fail
        | _, _, _, _ => .fail
      | none => .fail
    | _ => .fail
  | none => .fail

def indexAddrA (E : Env) (t : TypeId) (x ix : AV) : HM AV :=
  match ix.int?, E.ty t with
  | some (_, k), some ti => match ti.desc, x with
    | .slice e, .lsl u id i n g => match E.ty e with
      | some ei => if u.size = ei.size then .chk (decide (0 ≤ k)) (.chk (decide (k.toNat < n)) (.ret (.lptr id (i + k.toNat) 0 g))) else .fail
      | none => .fail
    | .slice e, .isl u l => match E.ty e with
      | some ei => if u.size = ei.size then .chk (decide (0 ≤ k)) (.chk (decide (k.toNat < l.length)) (.ret (.iptr (cellsT u (l.getD k.toNat (dfl u))) 0))) else .fail
      | none => .fail
    | .arr len e, x => match E.ty e with
      | some ei => if 0 ≤ k ∧ k.toNat < len ∧ 1 < len then one (x.moved (k.toNat * ei.size)) else .fail
      | none => .fail
    | _, _ => .fail
  | _, _ => .fail

def byteS (s : ByteArray) (i : Nat) : Int := (s.data.toList.getD i 0).toNat

def indexA (E : Env) (t : TypeId) (x ix : AV) : HM AV :=
  match ix.int?, E.ty t with
  | some (_, k), some ti => match ti.desc, x with
    | .str, .v (.string s) => .chk (decide (0 ≤ k)) (.chk (decide (k.toNat < s.size)) (int .u8 (byteS s k.toNat)))
    | .arr len e, .agg l => match E.ty e with
      | some ei => if 0 ≤ k ∧ k.toNat < len then one (partA ei l (k.toNat * ei.size)) else .fail
      | none => .fail
    | _, _ => .fail
  | _, _ => .fail

/-- a number of 64 bits, cut to a whole one -/
def ftoi (b : Nat) : Int := ((FloatKind.f64.decode b).toInt .zero).getD 0
def ftoiOK (k : IntKind) (b : Nat) : Bool := match (FloatKind.f64.decode b).toInt .zero with
  | some n => decide (k.min ≤ n) && decide (n ≤ k.max)
  | none => false

def convA (E : Env) (src dst : TypeId) (x : AV) : HM AV :=
  match E.ty src, E.ty dst with
  | some s, some d => match s.desc, d.desc, x with
    | .int _, .int k, .v (.int _ n) => int k (k.wrap n)
    | .int _, .float .f64, .v (.int _ n) => .ret (.v (.float .f64 (FloatKind.f64.nearest n)))
    | .float .f64, .int k, .v (.float .f64 b) => .chk (ftoiOK k b) (.ret (.v (.int k (ftoi b))))
    | .str, .str, .v (.string s) => .ret (.v (.string s))
    | _, _, _ => .fail
  | _, _ => .fail

def fold2 (f : Int → Int → Int) : AV → List AV → Option AV
  | x, [] => some x
  | .v (.int k a), .v (.int k' b) :: r => match sameK k k' with
    | true => fold2 f (.v (.int k (f a b))) r
    | false => none
  | _, _ => none

def copyA (E : Env) (t : TypeId) (dst src : AV) : HM Dl :=
  match elemT E t with
  | none => .fail
  | some ti => (sliceSeq src).bind fun
  | none => .fail
  | some ⟨u, y⟩ => if u.size ≠ ti.size then .fail else match dst with
    | .lsl t0 id i n g => .rd id fun b => if g = b.gen ∧ b.frozen = false ∧ t0.size = u.size then (match b.ct with
      | .sl u' l => if h : u = u' then .chk (decide (i + n ≤ l.length))
          (.ret { x := .v (.int .i64 (min y.length n : Nat)), wr := [(id, { b with ct := .sl u' (l.take i ++ (castL h y).take (min y.length n) ++ l.drop (i + min y.length n)) })] })
          else .fail
      | _ => .fail) else .fail
    | _ => .fail

/-- elements are made nothings -/
def clearA (E : Env) (t : TypeId) (x : AV) : HM Dl :=
  match elemT E t with
  | none => .fail
  | some ti => match ti.ty, x with
    | some _, .v (.slice none 0 0) => .ret { x := .v (.tuple #[]) }
    | some u, .lsl t0 id i n g => .rd id fun b => if g = b.gen ∧ b.frozen = false ∧ t0.size = u.size then (match b.ct with
      | .sl u' l => if h : u = u' then .chk (decide (i + n ≤ l.length)) (.ret { x := .v (.tuple #[]), wr := [(id, { b with ct := .sl u' (l.take i ++ List.replicate n (dfl u') ++ l.drop (i + n)) })] }) else .fail
      | _ => .fail) else .fail
    | _, _ => .fail

def imax (a b : Int) : Int := if b > a then b else a
def imin (a b : Int) : Int := if b < a then b else a

def val (x : AV) : Dl := { x := x }

def builtinA (E : Env) (newId : Nat) (b : Builtin) (ts : List TypeId) (args : List AV) : HM Dl :=
  match b, ts, args with
  | .len, t :: _, [x] => match E.ty t with
    | some ti => match lenA ti.desc x with
      | some n => .ret (val (.v (.int .i64 n)))
      | none => .fail
    | none => .fail
  | .append, [t, t'], [s, x] => if t = t' then appendA E t newId s x else .fail
  | .copy, t :: _, [d, s] => copyA E t d s
  | .clear, [t], [x] => clearA E t x
  | .max, _, x :: r => (one (fold2 imax x r)).bind fun y => .ret (val y)
  | .min, _, x :: r => (one (fold2 imin x r)).bind fun y => .ret (val y)
  | _, _, _ => .fail

/-- the nearest whole number; is the number one that it is known of? -/
def evenOK (x : Nat) : Bool := match FloatKind.f64.decode x with
  | .nan _ t => decide (FloatKind.f64.format.quiet t = t)
  | _ => true
def evenF (x : Nat) : Nat := match FloatKind.f64.decode x with
  | .nan _ _ => x
  | d => FloatKind.f64.encode (d.integral .even)

/-- what a function without a body answers -/
def extA (k : ExtK) (args : List AV) : HM Dl :=
  match k, args with
  | .bits, [.v (.float .f64 b)] => .ret { x := .v (.int .u64 (b : Int)) }
  | .frombits, [.v (.int .u64 n)] => .ret { x := .v (.float .f64 n.toNat) }
  | .even, [.v (.float .f64 x)] => .chk (evenOK x) (.ret { x := .v (.float .f64 (evenF x)) })
  | _, _ => .fail

/-- of objects of these kinds alone (and, where asked, of no reference but to them) -/
def Ty.ok (ks : List Nat) (fl : Bool) : Ty → Bool
  | .int _ | .bool | .str | .flt | .unit | .nat => true
  | .hd k => ks.any (Nat.beq k)
  | .pair a b => a.ok ks fl && b.ok ks fl
  | .st a => a.ok ks fl
  | .err => !fl
  | .sl a => !fl && a.ok ks fl
  | .ref a => !fl && a.ok ks fl
  | .clo _ c => !fl && c.ok ks fl

def Cell.ok (ks : List Nat) (fl : Bool) : Cell → Bool
  | .d t => t.ok ks fl
  | .sl t => t.ok ks fl

/-- likewise, of a value; references to blocks of the call's own may be new ones -/
def AV.ok (ks : List Nat) (fl : Bool) (b0 : Nat) : Nat → AV → Bool
  | 0, _ => false
  | n + 1, x => match x with
    | .v _ => true
    | .er _ => !fl
    | .agg l => l.all (AV.ok ks fl b0 n)
    | .tup l => l.all (AV.ok ks fl b0 n)
    | .isl t _ => !fl && t.ok ks fl
    | .nsl t _ => !fl && t.ok ks fl
    | .iptr row _ => !fl && row.all (AV.ok ks fl b0 n)
    | .gptr _ _ => true
    | .lsl _ (.l id) _ _ _ => Nat.ble b0 id
    | .lptr (.l id) _ _ _ => Nat.ble b0 id
    | .lsl _ _ _ _ _ => false
    | .lptr _ _ _ _ => false
    | .iface _ y => y.ok ks fl b0 n
    | .fn _ a c => a.all (AV.ok ks fl b0 n) && c.all (AV.ok ks fl b0 n)
    | .hd k _ => ks.any (Nat.beq k)
    | .top => true

def Blk.ok (ks : List Nat) (fl : Bool) (b0 : Nat) (b : Blk) : Bool := match b.ct with
  | .sl t _ => t.ok ks fl
  | .box row => row.all (AV.ok ks fl b0 8)
  | .tab cs _ _ _ => cs.all (Cell.ok ks fl)

/-- these kinds' objects -/
def rdAll : List Nat → HM (List Blk)
  | [] => .ret []
  | k :: r => .rd (.l k) fun b => (rdAll r).bind fun l => .ret (b :: l)

/-- nothing was taken away of them -/
def cleanB (ks : List Nat) (b : Blk) : Bool := match b.ct with
  | .tab cs _ st _ => st.isEmpty && cs.all (Cell.ok ks false)
  | _ => false

/-- as a callee has them -/
def handB (b : Blk) : Blk := match b.ct with
  | .tab cs l _ _ => { ct := .tab cs l [] (List.replicate ((ownQs cs 1).length + 1) 0), gen := 0, frozen := false }
  | _ => b

/-- how often an object's slices were turned -/
def Blk.gq (b : Blk) (q : Nat) : Nat := match b.ct with
  | .tab _ _ _ gs => gs.getD q 0
  | _ => 0

def genB : List Nat → List Blk → Nat → Nat → Nat
  | k' :: ks, b :: bs, k, q => match Nat.beq k' k with
    | true => b.gq q
    | false => genB ks bs k q
  | _, _, _, _ => 0

/-- an answer may be a piece of an object's own -/
def AV.okR1 (ks : List Nat) (ts : List Blk) (fl : Bool) (b0 : Nat) : AV → Bool
  | .lsl _ (.o k _ q) _ _ g => ks.any (Nat.beq k) && Nat.blt 0 q && Nat.beq g (genB ks ts k q)
  | x => x.ok ks fl b0 8
def AV.okR (ks : List Nat) (ts : List Blk) (fl : Bool) (b0 : Nat) : AV → Bool
  | .tup l => l.all (AV.okR1 ks ts fl b0)
  | x => x.okR1 ks ts fl b0

/-- … and is one then -/
def AV.turn1 (ks : List Nat) (bs : List Blk) : AV → AV
  | .lsl t (.o k i q) lo n _ => .lsl t (.o k i q) lo n (genB ks bs k q + 1)
  | x => x
def AV.turn (ks : List Nat) (bs : List Blk) : AV → AV
  | .tup l => .tup (l.map (AV.turn1 ks bs))
  | x => x.turn1 ks bs

/-- as they are behind a call -/
def backB (b b' : Blk) : Blk := match b.ct, b'.ct with
  | .tab cs _ _ gs, .tab cs' l _ _ => if cs' = cs then { b with ct := .tab cs' l [] ((List.range ((ownQs cs' 1).length + 1)).map fun q => gs.getD q 0 + 1) } else b
  | _, _ => b

def backBs : List Nat → List Blk → List Blk → List (Ref × Blk)
  | k :: ks, b :: bs, b' :: bs' => (.l k, backB b b') :: backBs ks bs bs'
  | _, _, _ => []

/-- they are of the same making -/
def likeB (b b' : Blk) : Bool := match b.ct, b'.ct with
  | .tab cs _ _ _, .tab cs' _ st _ => decide (cs' = cs) && st.isEmpty
  | _, _ => false

def likeBs : List Blk → List Blk → Bool
  | [], [] => true
  | b :: bs, b' :: bs' => likeB b b' && likeBs bs bs'
  | _, _ => false

/-- nothing is handed out of objects that a callee may change -/
def apartR (ks : List Nat) (ids : List Ref) : Bool := ids.all fun r => match r with
  | .l _ => true
  | .o k _ _ => !(ks.any (Nat.beq k))

/-- a slice of the call's own, or of an object's, whole, is made one of the call's own: its block, how often that was turned, what it bears; what is written -/
def ownA (newId : Nat) (u : Ty) : AV → HM (Nat × Nat × List (Val u) × List (Ref × Blk))
  | .lsl t0 (.l id) i n g => .rd (.l id) fun b => if g = b.gen ∧ b.frozen = false ∧ t0.size = u.size then (match b.ct with
    | .sl u' l => if h : u' = u then .chk (decide (i + n = l.length)) (.ret (id, g, ((castL h l).drop i).take n, [])) else .fail
    | _ => .fail) else .fail
  | .lsl t0 (.o k io q) i n g => .rd (.o k io q) fun b => .rd (.l k) fun tb => if g = b.gen ∧ t0.size = u.size then (match b.ct, tb.ct with
    | .sl u' l, .tab cs rows st gs => if h : u' = u then .chk (decide (i + n = l.length)) (.ret (newId, 0, ((castL h l).drop i).take n, [(.l k, { tb with ct := .tab cs rows ((q, io) :: st) gs })])) else .fail
    | _, _ => .fail) else .fail
  | .v (.slice none 0 0) => .ret (newId, 0, [], [])
  | _ => .fail

/-- elements laid into a slice, taken out of one -/
def lstA (newId : Nat) (k : LstK) (args : List AV) : HM Dl :=
  match k, args with
  | .ins sz wd, [s, .v (.int .i64 i), .lsl t1 (.l iy) lo m gy] => .rd (.l iy) fun yb => if gy = yb.gen then (match yb.ct with
    | .sl u y => if u.size = sz ∧ t1.size = sz then .chk (decide (lo + m ≤ y.length)) ((ownA newId u s).bind fun (id, g, l, wr) => match Nat.beq id iy with
      | true => .fail
      | false => .chk (decide (0 < m)) (.chk (decide (0 ≤ i)) (.chk (decide (i.toNat ≤ l.length)) (.chk (decide ((l.length + m) * (wd + 1) ≤ most))
          (.ret { x := .lsl u (.l id) 0 (l.length + m) (g + 1), wr := wr ++ [(.l id, { ct := .sl u (l.take i.toNat ++ (y.drop lo).take m ++ l.drop i.toNat), gen := g + 1, frozen := false })] }))))) else .fail
    | _ => .fail) else .fail
  | .del sz, [.lsl u r lo n g, .v (.int .i64 i), .v (.int .i64 j)] => if u.size = sz then (ownA newId u (.lsl u r lo n g)).bind fun (id, g, l, wr) =>
      .chk (decide (0 < l.length)) (.chk (decide (0 ≤ i)) (.chk (decide (i.toNat ≤ j.toNat)) (.chk (decide (0 ≤ j)) (.chk (decide (j.toNat ≤ l.length))
        (.ret { x := .lsl u (.l id) 0 (l.length - (j.toNat - i.toNat)) (g + 1), wr := wr ++ [(.l id, { ct := .sl u (l.take i.toNat ++ l.drop j.toNat), gen := g + 1, frozen := false })] }))))) else .fail
  | .fil g k, [.lsl u r lo n gg, .fn (.func g') [] [.lptr (.l ib) 0 0 gb]] => if g' = g ∧ u = .hd k then .rd (.l ib) fun bb => if gb = bb.gen then (match bb.ct with
    | .box [.hd k' h] => if k' = k then (ownA newId (.hd k) (.lsl u r lo n gg)).bind fun (id, gn, l, wr) => match Nat.beq id ib with
      | true => .fail
      | false => .chk (decide (0 < l.length)) (.chk (decide (l.length ≤ most)) (.ret { x := .lsl (.hd k) (.l id) 0 (l.filter fun (y : Option Nat) => !decide (y = h)).length (gn + 1), wr := wr ++ [(.l id, { ct := .sl (.hd k) (l.filter fun (y : Option Nat) => !decide (y = h)), gen := gn + 1, frozen := false })] })) else .fail
    | _ => .fail) else .fail else .fail
  | _, _ => .fail

/-- a call: what goes in is told as values; where its answer may bear references, what it was handed is frozen -/
def callA (E : Env) (f : FuncId) (newId : Nat) (args : List AV) : HM Dl :=
  match E.fn f with
  | none => match E.ext f with
    | some k => extA k args
    | none => match E.lst f with
      | some k => lstA newId k args
      | none => .fail
  | some _ => (exportN.exportL 8 args).bind fun (as, ids) => match apartR (E.ks f) ids && as.all (AV.ok (E.ks f) false 0 8) with
    | false => .fail
    | true => (rdAll (E.ks f)).bind fun bs => match bs.all (cleanB (E.ks f)) with
      | false => .fail
      | true => .call f as (bs.map handB) newId fun r ts wr => match Nat.ble wr.length 8 && likeBs bs ts && Nat.ble E.kinds.length newId with
        | false => .fail
        | true => match r.okR (E.ks f) ts true newId && wr.all (fun p => p.2.ok (E.ks f) true newId) && ts.all (Blk.ok (E.ks f) true newId) with
          | true => .ret { x := r.turn (E.ks f) bs, wr := backBs (E.ks f) bs ts ++ wr.map fun p => (.l p.1, p.2) }
          | false => match r.okR (E.ks f) ts false newId && wr.all (fun p => p.2.ok (E.ks f) false newId) with
            | false => .fail
            | true => (freezeAll ids).bind fun fz => .ret { x := r.turn (E.ks f) bs, wr := fz ++ (backBs (E.ks f) bs ts ++ wr.map fun p => (.l p.1, p.2)) }

def oneZero (ti : TyI) : AV := match ti.desc.isAgg with
  | true => .agg ti.zero
  | false => ti.zero.headD .top

/-- an error with a place: is it? its place, its error -/
def Er.isAt : Er → Bool
  | .at _ _ => true
  | _ => false
def Er.pos : Er → Int
  | .at p _ => p
  | _ => 0
def Er.gix : Er → Nat
  | .at _ g => g
  | .s g => g
  | .nil => 0

def typeAssertA (E : Env) (x : AV) (t : TypeId) (ok : Bool) : HM AV :=
  match E.ty t with
  | none => .fail
  | some ti => match ti.desc with
    | .iface => .fail
    | _ => match x, ok with
      | .iface u y, true => if u = t then .ret (.tup [y, .v (.bool true)]) else .ret (.tup [oneZero ti, .v (.bool false)])
      | .iface u y, false => if u = t then .ret y else .fail
      | .v .nilIface, true => .ret (.tup [oneZero ti, .v (.bool false)])
      | .er e, true => if t = E.atT then .dec e.isAt (.ret (.tup [.iptr [.v (.int .i64 e.pos), .er (.s e.gix)] 0, .v (.bool true)])) (.ret (.tup [oneZero ti, .v (.bool false)])) else .fail
      | _, _ => .fail

def ofConst : Value → AV
  | .agg cs => .agg (cs.toList.map .v)
  | v => .v v

def aeval (env : List AV) : Operand → AV
  | .tmp t => env.getD t .top
  | .const v => ofConst v
  | .global g => .gptr g 0
  | .func f => .fn (.func f) [] []

/-- the elements of a slice that is written out, one after the other -/
def partsA (N : Names) (t : Ty) (i : Nat) : List (Nat × AV) → Option (List (Val t))
  | [] => some []
  | (j, x) :: r => match decA N t x, partsA N t (i + 1) r with
    | some y, some l => if j = i then some (y :: l) else none
    | _, _ => none

def TyI.part (ei : TyI) : Option Ty := match ei.ty with
  | some t => some t
  | none => ei.cty

def buildA (E : Env) (ei : TyI) (newId n : Nat) (parts : List (Nat × AV)) : HM Dl :=
  match ei.part with
  | none => .fail
  | some t => (exportN.exportL 8 (parts.map (·.2))).bind fun (ys, ids) => (freezeAll ids).bind fun fz =>
    match partsA E.toNames t 0 ((parts.map (·.1)).zip ys) with
    | some l => if l.length = n ∧ n * ei.size ≤ 16777216 then .ret { x := .lsl t (.l newId) 0 n 0, wr := fz ++ [(.l newId, { ct := .sl t l, gen := 0, frozen := false })] } else .fail
    | none => .fail

/-- one operation -/
def aop (E : Env) (ρ : Operand → AV) (newId : Nat) (o : Op) : HM Dl :=
  match o with
  | .move x | .assign x => .ret (val (ρ x))
  | .pick c a b => match ρ c with
    | .v (.bool t) => .dec t (.ret (val (ρ a))) (.ret (val (ρ b)))
    | _ => .fail
  | .alloc t => match E.ty t with
    | some ti => match E.kind t with
      | none => .ret { x := .lptr (.l newId) 0 0 0, wr := [(.l newId, { ct := .box ti.zero, gen := 0, frozen := false })] }
      | some (k, _) => newOA E ti k ti.zero
    | none => .fail
  | .box t x => match E.ty t, (ρ x).cells with
    | some ti, some cs => if cs.all AV.isCell ∧ cs.length = ti.size then (match E.kind t with
      | none => .ret { x := .lptr (.l newId) 0 0 0, wr := [(.l newId, { ct := .box cs, gen := 0, frozen := false })] }
      | some (k, _) => newOA E ti k cs) else .fail
    | _, _ => .fail
  | .build t parts => match E.ty t with
    | some ti => match ti.desc with
      | .struct fs => match fillA (fun i => fs[i]?.map (·.2)) ti.zero (parts.toList.map fun (i, x) => (i, ρ x)) with
        | some cs => .ret (val (.agg cs))
        | none => .fail
      | .arr _ e => match E.ty e with
        | some ei => match fillA (fun i => some (i * ei.size, ei.size)) ti.zero (parts.toList.map fun (i, x) => (i, ρ x)) with
          | some cs => .ret (val (.agg cs))
          | none => .fail
        | none => .fail
      | _ => .fail
    | none => .fail
  | .buildSlice t n parts => match elemT E t with
    | some ei => buildA E ei newId n (parts.toList.map fun (i, x) => (i, ρ x))
    | none => .fail
  | .load t a => (loadA E t (ρ a)).bind fun x => .ret (val x)
  | .store t a x => storeA E t (ρ a) (ρ x)
  | .nilCheck x => match ρ x with
    | .lptr id i j g => .ret (val (.lptr id i j g))
    | .gptr g j => .ret (val (.gptr g j))
    | .iptr r j => .ret (val (.iptr r j))
    | .iface t y => .ret (val (.iface t y))
    | .fn (.func f) a c => .ret (val (.fn (.func f) a c))
    | .hd k x => .chk x.isSome (.ret (val (.lptr (.o k (x.getD 0) 0) 0 0 0)))
    | _ => .fail
  | .binOp op t x y _ => (binA E op t (isConst x || isConst y) (ρ x) (ρ y)).bind fun x => .ret (val x)
  | .unOp op _ x => match op, ρ x with
    | .not, .v (.bool b) => .ret (val (.v (.bool !b)))
    | .neg, .v (.int k n) => .ret (val (.v (.int k (k.wrap (0 - n)))))
    | _, _ => .fail
  | .convert s d x => (convA E s d (ρ x)).bind fun x => .ret (val x)
  | .makeInterface t x => match E.ty t with
    | some ti => match ti.desc with
      | .iface => .fail
      | _ => .ret (val (.iface t (ρ x)))
    | none => .fail
  | .makeFunc f a c => .ret (val (.fn f (a.toList.map ρ) (c.toList.map ρ)))
  | .makeSlice t l c => match elemT E t, (ρ l).int?, (ρ c).int? with
    | some ei, some (_, n), some (_, m) => match ei.ty with
      | some u => .chk (decide (0 ≤ n)) (.chk (decide (n ≤ m)) (.chk (decide (m * (ei.bytes + 1) ≤ most))
        (.ret { x := .lsl u (.l newId) 0 n.toNat 0, wr := [(.l newId, { ct := .sl u (List.replicate n.toNat (dfl u)), gen := 0, frozen := false })] })))
      | none => .fail
    | _, _, _ => .fail
  | .slice t x lo hi mx => match mx with
    | some m => emptyA E t newId (ρ x) (lo.map ρ) (hi.map ρ) (ρ m)
    | none => match E.ty t with
      | some ti => match ti.desc with
        | .slice e => match E.ty e with
          | some ei => (sliceA ei.size (ρ x) (lo.map ρ) (hi.map ρ)).bind fun x => .ret (val x)
          | none => .fail
        | .str => match ρ x with
          | .v (.string s) => (cutA s (lo.map ρ) (hi.map ρ)).bind fun x => .ret (val x)
          | _ => .fail
        | _ => .fail
      | none => .fail
  | .fieldAddr s x f => match fieldOf E s f with
    | some fd => if fd.2.2 = 0 then .fail else (one ((ρ x).moved fd.2.1)).bind fun x => .ret (val x)
    | none => .fail
  | .field s x f => match fieldOf E s f, ρ x with
    | some fd, .agg l => match E.ty fd.1 with
      | some ti => (one (partA ti l fd.2.1)).bind fun x => .ret (val x)
      | none => .fail
    | _, _ => .fail
  | .indexAddr t x ix => (indexAddrA E t (ρ x) (ρ ix)).bind fun x => .ret (val x)
  | .index t x ix => (indexA E t (ρ x) (ρ ix)).bind fun x => .ret (val x)
  | .typeAssert x _ t ok => (typeAssertA E (ρ x) t ok).bind fun x => .ret (val x)
  | .extract t i => match ρ t with
    | .tup l => (one l[i]?).bind fun x => .ret (val x)
    | _ => .fail
  | .call c => match c.callee with
    | .builtin b => builtinA E newId b c.argTypes.toList (c.args.toList.map ρ)
    | .value f => match ρ f with
      | .fn (.func g) a cp => callA E g newId (a ++ c.args.toList.map ρ ++ cp)
      | _ => .fail
    | .invoke _ _ => .fail
  | _ => .fail

structure St where
  env : List AV
  heap : List (Option Blk)

def St.rd (s : St) (id : Ref) : Option Blk := rdH s.heap id

def putAll (h : List (Option Blk)) : List (Ref × Blk) → List (Option Blk)
  | [] => h
  | (i, b) :: r => putAll (putH h i b) r

def putD (env : List AV) (d : Option Tmp) (x : AV) : List AV :=
  match d with
  | some k => env.set k x
  | none => env

def St.app (s : St) (d : Option Tmp) (δ : Dl) : St := ⟨putD s.env d δ.x, putAll s.heap δ.wr⟩

/-- what an operation read and wrote of the heap -/
structure Fp where
  i : Nat
  rs : List Nat
  ws : List Nat

/-- how many new places an operation may take -/
def wid : Op → Nat
  | .call c => match c.callee with
    | .value _ => 8
    | _ => 1
  | _ => 1

/-- what is written is new, or was there -/
def touch {α : Type} (newId n : Nat) : List (Ref × Blk) → HM α → HM α
  | [], k => k
  | p :: r, k => match Nat.ble newId p.1.ix && Nat.blt p.1.ix (newId + n) with
    | true => touch newId n r k
    | false => .rd (.l p.1.ix) fun _ => touch newId n r k

/-- an operation under its guard: what it makes (none: it is left out) -/
def stepH (E : Env) (ops : List Oper) (newId : Nat) (o : Oper) (env : List AV) : HM (Option Dl) :=
  match o.guard with
  | none => (aop E (aeval env) newId o.op).bind fun δ => touch newId (wid o.op) δ.wr (.ret (some δ))
  | some (j, want) => match (ops[j]?).bind (·.dst) with
    | some d => match env.getD d .top with
      | .v (.bool b) => match want with
        | true => .dec b ((aop E (aeval env) newId o.op).bind fun δ => touch newId (wid o.op) δ.wr (.ret (some δ))) (.ret none)
        | false => .dec b (.ret none) ((aop E (aeval env) newId o.op).bind fun δ => touch newId (wid o.op) δ.wr (.ret (some δ)))
      | .v (.tuple _) => .ret none
      | _ => .fail
    | none => .fail

/-- (what is left out makes no value) -/
def dlOf : Option Dl → Dl
  | some δ => δ
  | none => { x := .v (.tuple #[]) }

def stepA (E : Env) (call : CallF) (ops : List Oper) (newId i : Nat) (o : Oper) (s : St) : Option (St × Fp) :=
  match (stepH E ops newId o s.env).run call s.rd with
  | some (δ, l) => some (s.app o.dst (dlOf δ), ⟨i, l, (dlOf δ).wr.map (·.1.ix)⟩)
  | none => none

def consF (f : Fp) (l : List Fp) : List Fp := match f.rs, f.ws with
  | [], [] => l
  | _, _ => f :: l

def runOps (E : Env) (call : CallF) (ops : List Oper) : Nat → Nat → List Oper → St → Option (St × List Fp)
  | _, _, [], s => some (s, [])
  | n, i, o :: r, s => match stepA E call ops n i o s with
    | some (s', f) => match runOps E call ops (n + wid o.op) (i + 1) r s' with
      | some (t, l) => some (t, consF f l)
      | none => none
    | none => none

/-- how many new places a region may take -/
def widL : List Oper → Nat
  | [] => 0
  | o :: r => wid o.op + widL r

/-- what is to be done ahead of an operation, by its edges (a bit for each) -/
def maskOf (acc : List Nat) : List Edge → Nat
  | [] => 0
  | e :: r => match Region.binds .any e with
    | true => acc.getD e.on 0 ||| (1 <<< e.on) ||| maskOf acc r
    | false => maskOf acc r

def masks : List Oper → List Nat → List Nat
  | [], acc => acc
  | o :: r, acc => masks r (acc ++ [maskOf acc o.after.toList])

def meets (a b : List Nat) : Bool := a.any fun x => b.contains x

/-- what is left open by the order does not hang on it -/
def fpsOK (ms : List Nat) : List Fp → Bool
  | [] => true
  | f :: r => (r.all fun g => !(meets f.ws g.rs || meets f.ws g.ws || meets f.rs g.ws) || (ms.getD g.i 0).testBit f.i) && fpsOK ms r

/-- nothings at the end fall away -/
def trim : List (Option Blk) → List (Option Blk)
  | [] => []
  | x :: r => match x, trim r with
    | none, [] => []
    | x, r' => x :: r'

inductive AX where
  | normal
  | exit (id : Nat)
  | ret
  deriving DecidableEq

def nloops : Code → Nat
  | .seq a b => nloops a + nloops b
  | .cond _ a b => nloops a + nloops b
  | .block _ c => nloops c
  | .loop c => nloops c + 1
  | .scope c => nloops c
  | _ => 0

def loopsOf : Code → List Code
  | .seq a b => loopsOf a ++ loopsOf b
  | .cond _ a b => loopsOf a ++ loopsOf b
  | .block _ c => loopsOf c
  | .loop c => c :: loopsOf c
  | .scope c => loopsOf c
  | _ => []

def regionA (E : Env) (call : CallF) (ops : List Oper) (draw : Bool) (s : St) : Option (AX × St) :=
  match runOps E call ops s.heap.length 0 ops ⟨s.env, s.heap ++ List.replicate (widL ops) none⟩ with
  | some (s', l) => match draw, fpsOK (masks ops []) l with
    | true, false => none
    | _, _ => some (.normal, ⟨s'.env, trim s'.heap⟩)
  | none => none

def run (E : Env) (call : CallF) (loop : Nat → St → Option (AX × St)) : Nat → Code → St → Option (AX × St)
  | _, .skip, s => some (.normal, s)
  | _, .region _ ops draw, s => regionA E call ops.toList draw s
  | k, .seq a b, s => match run E call loop k a s with
    | some (.normal, s') => run E call loop (k + nloops a) b s'
    | r => r
  | k, .cond c a b, s => match aeval s.env c with
    | .v (.bool t) => match t with
      | true => run E call loop k a s
      | false => run E call loop (k + nloops a) b s
    | _ => none
  | k, .block id c, s => match run E call loop k c s with
    | some (.exit id', s') => if id' = id then some (.normal, s') else some (.exit id', s')
    | r => r
  | k, .scope c, s => run E call loop k c s
  | _, .label _, s => some (.normal, s)
  | k, .loop _, s => loop k s
  | _, .exit id, s => some (.exit id, s)
  | _, .ret, s => some (.ret, s)
  | _, _, _ => none

/-! The same, handed on: what comes behind is a function of what is made ('cond' and 'bind' stay in sight). -/

abbrev CallK (R : Type) := FuncId → List AV → List Blk → Nat → (AV → List Blk → List (Nat × Blk) → Option R) → Option R

def HM.runK {α R : Type} (callK : CallK R) (h : Ref → Option Blk) : HM α → List Nat → (α → List Nat → Option R) → Option R
  | .ret a, l, k => k a l
  | .rd id f, l, k => match h id with
    | some b => (f b).runK callK h (l ++ [id.ix]) k
    | none => none
  | .chk b f, l, k => cond b (f.runK callK h l k) none
  | .dec b x y, l, k => cond b (x.runK callK h l k) (y.runK callK h l k)
  | .call f as bs n g, l, k => callK f as bs n fun r ts wr => (g r ts wr).runK callK h l k
  | .fail, _, _ => none

/-- a truth that has been asked for is known from there on -/
def setB (env : List AV) (d : Nat) (b : Bool) : List AV := env.set d (.v (.bool b))

def doneK {R : Type} (E : Env) (callK : CallK R) (newId : Nat) (o : Oper) (s : St) (k : St → List Nat → List Nat → Option R) : Option R :=
  ((aop E (aeval s.env) newId o.op).bind fun δ => touch newId (wid o.op) δ.wr (.ret δ)).runK callK s.rd [] fun δ rs => k (s.app o.dst δ) rs (δ.wr.map (·.1.ix))

def skipK {R : Type} (o : Oper) (s : St) (k : St → List Nat → List Nat → Option R) : Option R := k (s.app o.dst (dlOf none)) [] []

def stepK {R : Type} (E : Env) (callK : CallK R) (ops : List Oper) (newId : Nat) (o : Oper) (s : St) (k : St → List Nat → List Nat → Option R) : Option R :=
  match o.guard with
  | none => doneK E callK newId o s k
  | some (j, want) => match (ops[j]?).bind (·.dst) with
    | some d => match s.env.getD d .top with
      | .v (.bool b) => match want with
        | true => cond b (doneK E callK newId o ⟨setB s.env d true, s.heap⟩ k) (skipK o ⟨setB s.env d false, s.heap⟩ k)
        | false => cond b (skipK o ⟨setB s.env d true, s.heap⟩ k) (doneK E callK newId o ⟨setB s.env d false, s.heap⟩ k)
      | .v (.tuple _) => skipK o s k
      | _ => none
    | none => none

def runOpsK {R : Type} (E : Env) (callK : CallK R) (ops : List Oper) : Nat → Nat → List Oper → St → List Fp → (St → List Fp → Option R) → Option R
  | _, _, [], s, l, k => k s l
  | n, i, o :: r, s, l, k => stepK E callK ops n o s fun s' rs ws => runOpsK E callK ops (n + wid o.op) (i + 1) r s' (l ++ consF ⟨i, rs, ws⟩ []) k

def regionK {R : Type} (E : Env) (callK : CallK R) (ops : List Oper) (draw : Bool) (s : St) (k : AX → St → Option R) : Option R :=
  runOpsK E callK ops s.heap.length 0 ops ⟨s.env, s.heap ++ List.replicate (widL ops) none⟩ [] fun s' l =>
    match draw, fpsOK (masks ops []) l with
    | true, false => none
    | _, _ => k .normal ⟨s'.env, trim s'.heap⟩

def runK {R : Type} (E : Env) (callK : CallK R) (loopK : Nat → St → (AX → St → Option R) → Option R) :
    Nat → Code → St → (AX → St → Option R) → Option R
  | _, .skip, s, k => k .normal s
  | _, .region _ ops draw, s, k => regionK E callK ops.toList draw s k
  | n, .seq a b, s, k => runK E callK loopK n a s fun e s' => match e with
    | .normal => runK E callK loopK (n + nloops a) b s' k
    | e => k e s'
  | n, .cond c a b, s, k => match aeval s.env c with
    | .v (.bool t) => match c with
      | .tmp d => cond t (runK E callK loopK n a ⟨setB s.env d true, s.heap⟩ k) (runK E callK loopK (n + nloops a) b ⟨setB s.env d false, s.heap⟩ k)
      | _ => cond t (runK E callK loopK n a s k) (runK E callK loopK (n + nloops a) b s k)
    | _ => none
  | n, .block id c, s, k => runK E callK loopK n c s fun e s' => match e with
    | .exit id' => if id' = id then k .normal s' else k (.exit id') s'
    | e => k e s'
  | n, .scope c, s, k => runK E callK loopK n c s k
  | _, .label _, s, k => k .normal s
  | n, .loop _, s, k => loopK n s k
  | _, .exit id, s, k => k (.exit id) s
  | _, .ret, s, k => k .ret s
  | _, _, _, _ => none

end Go.Eng
